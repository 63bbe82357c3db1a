import Derived.Test.YtdiobaoelhdkoaaViXC
import Derived.Deep.LoopGhost
import Derived.Orders
set_option linter.unusedVariables false
set_option linter.unusedSimpArgs false
set_option linter.unnecessarySimpa false
set_option linter.unusedSectionVars false
open Array renaming length_toList → zaG
open Bool renaming and_eq_true → zad
open Int renaming le_refl → zaF, toNat_natCast → zat
open List renaming eq_nil_of_length_eq_zero → zaz, getElem?_drop → zav, getElem?_eq_getElem → zac, getElem?_eq_some_iff → zaK, getElem?_take → zap, length_append → zag, length_drop → zal, length_map → zaH, length_take → zae, map_cons → zaC, mem_append → zaf, mem_append_left → zab, mem_append_right → zaa, mem_cons → zak, mem_cons_of_mem → zaj, mem_cons_self → zar, mem_singleton → zah, nil_append → zaR, nodup_append → zai, nodup_cons → zaJ, nodup_nil → zaA, replicate → zaT, take_append_drop → zay, take_of_length_le → zan
open Nat renaming add_mul → zaS, le_refl → zax, lt_of_lt_of_le → zaq, min_eq_left → zaQ, mul_le_mul_right → zam, zero_add → zaP, zero_le → zaD
open Option renaming isSome_iff_exists → zaE, map_eq_some_iff → zao
namespace Go.Vi
open Go.RowKit
def qfP (w:World) (F:Nat→Prop) (gh:Nat→Nat→Option Value) (e:Ty) (xs:List e.den) (v:Value):Prop:=
 (xs=[]∧∃A c,v=.slice A 0 c)∨∃(ad:Addr) (cap:Nat) (cells:List Value),v=.slice (some ad) xs.length cap∧cells.length=xs.length*e.size∧(∀j u,cells[j]? =some u→w.cell? (ad.add j)=some u)∧∀i x,xs[i]? =some x→qa6 w F gh e x ((cells.drop (i*e.size)).take e.size)
section
variable {P:Program}{w:World}{F:Nat→Prop}{gh:Nat→Nat→Option Value}
theorem qI.hrowAt {et:Nat}{e:Ty}{xs:List e.den}{v:Value}{bs:List Nat}(h:qI w F gh et e xs v bs):qfP w F gh e xs v:=by
 obtain⟨cells,k1,k2,k3⟩:=h;rcases k1.2 with⟨k4,k5⟩|⟨g,cap,cur,k4,_⟩
 ·exact .inl ⟨zaz k5,_,_,k4⟩
 ·exact .inr ⟨⟨g,0,none⟩,cap,cells,k4,k1.1,k1.cells (by rw[k4];rfl),k3⟩
theorem qli (t ty e:Nat) (i:TypeInfo) (ht:P.underlying t=some (.slice e)) (hi:P.info? e=some i) {A B:Option Addr}{n c c':Nat}(hn:n≤c):
  (Builtin.append_ #[t,t] ty #[.slice A n c,.slice B 0 c']).run P w=.ok (.slice A n c) w:=by
 cases A<;>cases B<;>simp[Builtin.append_,run_underlying ht,sizeOf,typeInfo,hi,Builtin.lenOf,Builtin.firstCells,hn,storeCells,loadCells,loadCellsFrom]
theorem qm2 (t ty e:Nat) (i:TypeInfo) (ht:P.underlying t=some (.slice e)) (hi:P.info? e=some i)
  (g off sLen sCap:Nat) (cur:Array Value) (hg:w.heap[g]? =some (.cells cur e (0,0)))
  (a:Addr) (m c:Nat) (news:List Value) (hl:news.length=m*i.size) (hnews:∀j u,news[j]? =some u→w.cell? (a.add j)=some u) (h1:∀u∈news,u.oneCell'=true)
  (hroom:sLen+m≤sCap) (hfit:off+sLen*i.size+news.length≤cur.size):
  (Builtin.append_ #[t,t] ty #[.slice (some ⟨g,off,none⟩) sLen sCap,.slice (some a) m c]).run P w=
   .ok (.slice (some ⟨g,off,none⟩) (sLen+m) sCap) (w.setRow g (cur.toList.take (off+sLen*i.size)++news++cur.toList.drop (off+sLen*i.size+news.length)).toArray):=by
 have hf:=run_firstCells_some (P:=P) w i.size m a m c news hl hnews;have hst:=run_storeCells_at P g (off+sLen*i.size) e news 0 cur w hg (by omega) h1;simp only[Nat.add_zero]at hst;simp[Builtin.append_,run_underlying ht,sizeOf,typeInfo,hi,Builtin.lenOf,hroom,hf,Addr.add_lit,hst]
theorem qa6.yx {e:Ty}{xs ys:List e.den}{c1 c2:List Value}(hl:c1.length=xs.length*e.size) (h1:∀(i:Nat) (x:e.den),xs[i]? =some x→qa6 w F gh e x ((c1.drop (i*e.size)).take e.size))
  (h2:∀(i:Nat) (x:e.den),ys[i]? =some x→qa6 w F gh e x ((c2.drop (i*e.size)).take e.size)):∀(i:Nat) (x:e.den),(xs++ys)[i]? =some x→qa6 w F gh e x (((c1++c2).drop (i*e.size)).take e.size):=fun i u hi=>by
 by_cases hlt:i<xs.length
 ·rw[List.getElem?_append_left hlt]at hi;have hle:(i+1)*e.size≤xs.length*e.size:=zam _ hlt;grind
 grind [zam,qbU,Nat.sub_mul]
theorem qI.over {t ty et:Nat}{e:Ty}{i:TypeInfo}(ht:P.underlying t=some (.slice et)) (hi:P.info? et=some i) (hsz:i.size=e.size) {xs ys:List e.den}{g n cap lo hi':Nat}{bs:List Nat}(qN:qI w F gh et e xs (.slice (some ⟨g,0,none⟩) n cap) bs)
  (hF0:∀x,F x→x≠g) {ad:Addr}{c:Nat}{news:List Value}(n1:news.length=ys.length*e.size) (n2:∀j u,news[j]? =some u→w.cell? (ad.add j)=some u) (n3:∀i x,ys[i]? =some x→qa6 w F gh e x ((news.drop (i*e.size)).take e.size)) (h1:∀u∈news,u.oneCell'=true)
  (hlo:lo≤hi') (hh:hi'+ys.length≤xs.length):
  ∃W,(Builtin.append_ #[t,t] ty #[.slice (some ⟨g,lo*e.size,none⟩) (hi'-lo) (cap-lo),.slice (some ad) ys.length c]).run P w=.ok (.slice (some ⟨g,lo*e.size,none⟩) (hi'-lo+ys.length) (cap-lo)) W∧
   qaA (fun k=>k=g) w W∧bs=[g]∧qI W F gh et e (xs.take hi'++ys++xs.drop (hi'+ys.length)) (.slice (some ⟨g,0,none⟩) n cap) bs:=by
 obtain⟨cells,r1,r2,r3⟩:=qN;have hbs:bs=[g]:=r2;rcases r1.2 with⟨r6,_⟩|⟨g',cap',cur,r6,_,r7,r8,r9,r10,r11⟩
 ·cases r6
 injection r6 with r6 r6n r6c;injection r6 with r6;injection r6 with r6;subst r6;subst r6n;subst r6c;have hcz:cur.toList.length=cur.size:=zaG;have hcl:cells.length=xs.length*e.size:=r1.1;have m1:(hi'+ys.length)*e.size≤xs.length*e.size:=zam _ hh;have m2:xs.length*e.size≤cap*e.size:=zam _ r8;have m3:lo*e.size+(hi'-lo)*e.size=hi'*e.size:=by rw[←zaS];congr 1;omega
 rw[zaS]at m1;have hrun:=qm2 (w:=w) t ty et i ht hi g (lo*e.size) (hi'-lo) (cap-lo) cur r7 ad ys.length c news (by grind) n2 h1 (by omega) (by grind);rw[hsz,m3]at hrun;generalize hW:w.setRow g (cur.toList.take (hi'*e.size)++news++cur.toList.drop (hi'*e.size+news.length)).toArray=W at hrun;have hkept:qaA (fun k=>k=g) w W:=by grind [qcR]
 have hheap:W.heap[g]? =some (.cells (cur.toList.take (hi'*e.size)++news++cur.toList.drop (hi'*e.size+news.length)).toArray et (0,0)):=by grind [setRow_heap]
 have hF:∀x,F x→x<w.heap.size→F x∧x<W.heap.size∧W.heap[x]? =w.heap[x]? :=fun x hx hlt=>⟨hx,zaq hlt hkept.size,hkept.block x hlt fun e=>hF0 x hx e⟩;have hll:(xs.take hi'++ys++xs.drop (hi'+ys.length)).length=xs.length:=by grind
 have hcut:cells=cur.toList.take (xs.length*e.size):=r11.symm;have e0:(cur.toList.take (hi'*e.size)++news++cur.toList.drop (hi'*e.size+news.length)).take (xs.length*e.size)=cells.take (hi'*e.size)++news++cells.drop ((hi'+ys.length)*e.size):=by
  rw[List.take_append,List.take_append,zag,zae,hcz,hcut,List.take_take,List.take_take,List.drop_take,zaS,←n1];rw[zan (l:=news) (by omega)];grind
 refine⟨W,hrun,hkept,hbs,cells.take (hi'*e.size)++news++cells.drop ((hi'+ys.length)*e.size),⟨?_,.inr ⟨g,cap,_,by rw[hll],zaD _,hheap,by omega,r9,?_,by grind⟩⟩,r2,?_⟩
 ·rw[hll,zag,zag,zae,zal,n1,zaS];omega
 ·rw[List.size_toArray,zag,zag,zae,zal,hcz,n1,r10];omega
 ·intro j x hj;refine qa6.keep hF (qaJ.refl _) (qa6.yx (xs:=xs.take hi'++ys) (ys:=xs.drop (hi'+ys.length)) (c1:=cells.take (hi'*e.size)++news) (c2:=cells.drop ((hi'+ys.length)*e.size)) ?_ (qa6.yx ?_ (fun k u hk=>?_) n3) (fun k u hk=>?_) j x hj)
  ·rw[zag,zag,zae,zae,zaS,n1,hcl,zaQ (by omega),zaQ (by omega)]
  ·rw[zae,zae,hcl,zaQ (by omega),zaQ (by omega)]
  ·have hkl:k<hi':=by
    grind
   rw[zap,if_pos hkl]at hk;have:=zam e.size (Nat.succ_le_of_lt hkl);rw[Nat.succ_mul]at this;rw[List.drop_take,List.take_take,zaQ (by omega)];grind
  grind [List.drop_drop,zaS]
theorem qfP.ones {e:Ty}{ys:List e.den}{news:List Value}(hpos:0<e.size) (n1:news.length=ys.length*e.size) (n3:∀i x,ys[i]? =some x→qa6 w F gh e x ((news.drop (i*e.size)).take e.size)):∀u∈news,u.oneCell'=true:=by
 intro u hu;obtain⟨j,hj,rfl⟩:=List.getElem_of_mem hu;have hjlt:j/e.size<ys.length:=(Nat.div_lt_iff_lt_mul hpos).2 (by omega);have hrep:=n3 _ _ (zac hjlt);have hm:=Nat.mod_lt j hpos;have hdm:j/e.size*e.size+j%e.size=j:=by grind [Nat.div_add_mod]
 refine hrep.oneCell _ (List.mem_of_getElem? (i:=j%e.size) ?_);grind
theorem qI.cut {et:Nat}{e:Ty}{xs:List e.den}{g n cap m:Nat}{bs:List Nat}(h:qI w F gh et e xs (.slice (some ⟨g,0,none⟩) n cap) bs) (hm:m≤xs.length):qI w F gh et e (xs.take m) (.slice (some ⟨g,0,none⟩) m cap) bs:=by
 obtain⟨cells,ho,hb,hr⟩:=h;have hl:(xs.take m).length=m:=by rw[zae];omega
 have hle:m*e.size≤xs.length*e.size:=zam _ hm;refine⟨cells.take (m*e.size),⟨by rw[hl,zae,ho.1];omega,?_⟩,hb,fun i x hi=>?_⟩
 ·rcases ho.2 with⟨h1,_⟩|⟨g',cap',cur,h1,h2,h3,h4,h5,h6,h7⟩
  ·cases h1
  ·injection h1 with e1 e2 e3;injection e1 with e1;injection e1 with e1;subst e1 e3;exact .inr ⟨g,cap,cur,by rw[hl],h2,h3,by rw[hl];omega,h5,h6,by rw[hl,←h7,List.take_take,zaQ hle]⟩
 ·rw[zap]at hi;split at hi
  ·rename_i him;have:=hr i x hi;have hq:i*e.size+e.size≤m*e.size:=by rw[←Nat.succ_mul];exact zam _ him
   rw[List.drop_take,List.take_take,zaQ (by omega)];exact this
  ·cases hi
theorem qI.app {t ty et bytes:Nat}{e:Ty}{i:TypeInfo}{z:Value}(ht:P.underlying t=some (.slice et)) (hi:P.info? et=some i) (hz:i.zero=some z) (hsz:i.size=e.size) (hby:i.bytes=bytes) (hzs:z.cells.size=e.size) (hpos:0<e.size)
  {xs ys:List e.den}{x:Value}{bs:List Nat}(qN:qI w F gh et e xs x bs) (hF0:∀b,F b→b∉bs)
  {ad:Addr}{c:Nat}{news:List Value}(n1:news.length=ys.length*e.size) (n2:∀j u,news[j]? =some u→w.cell? (ad.add j)=some u) (n3:∀i x,ys[i]? =some x→qa6 w F gh e x ((news.drop (i*e.size)).take e.size))
  (h63:xs.length+ys.length≤maxLen) (hbytes:(xs.length+ys.length)*bytes≤140737488355328):
  ∃v' W,(Builtin.append_ #[t,t] ty #[x,.slice (some ad) ys.length c]).run P w=.ok v' W∧qaA (fun k=>k∈bs) w W∧qI W F gh et e (xs++ys) v' v'.ownBlock.toList∧
   (∀b∈v'.ownBlock.toList,(w.heap.size≤b∧b<W.heap.size)∨b∈bs)∧
   ∀g∈bs,W.heap[g]? =w.heap[g]? ∨(v'.ownBlock=some g∧∃cur cur':Array Value,w.heap[g]? =some (.cells cur et (0,0))∧W.heap[g]? =some (.cells cur' et (0,0))∧cur'.size=cur.size∧cur'.toList.take (xs.length*e.size)=cur.toList.take (xs.length*e.size)):=by
 obtain⟨cells,r1,r2,r3⟩:=qN;subst r2;obtain⟨v',W,a1,a2,a3,a4⟩:=ql7 (P:=P) (t:=t) (ty:=ty) ht hi hz hsz hby hzs hpos r1 (c:=c) n1 n2 (qfP.ones hpos n1 n3) h63 hbytes;have hk:qaA (fun k=>k∈x.ownBlock.toList) w W:=(qaA.yt a3).mono fun k hk=>by grind
 have hF:∀b,F b→b<w.heap.size→F b∧b<W.heap.size∧W.heap[b]? =w.heap[b]? :=fun b hb hlt=>⟨hb,zaq hlt hk.size,hk.block b hlt (hF0 b hb)⟩;exact⟨v',W,a1,hk,⟨cells++news,by grind,rfl,fun j u hj=>qa6.keep hF (qaJ.refl _) (qa6.yx r1.1 r3 n3 j u hj)⟩,a4,qrn ht hi hz hsz hby r1 n1 n2 (qfP.ones hpos n1 n3) h63 hbytes a1⟩
theorem qsV {t ty k bytes:Nat}{i:TypeInfo}{z:Value}{ps:List qQ}{nb:List Nat}{q:qQ}(hn:(ps.map (·.k)).Nodup) (hh:qL w F gh ps nb) (hq:qcg k ps=some q)
  (ht:P.underlying t=some (.slice q.et)) (hi:P.info? q.et=some i) (hz:i.zero=some z) (hsz:i.size=q.e.size) (hby:i.bytes=bytes) (hzs:z.cells.size=q.e.size) (hpos:0<q.e.size) (hbp:0<bytes)
  (hF0:∀b,F b→b∉nb) (hnb:nb.Nodup) (hlt:∀b∈nb,b<w.heap.size) {ys:List q.e.den}(hRo:qtj k q.et q.e ps=true)
  {s:Int×(Int×Int)}{v y:Value}(hs:qe2 gh k q.e.size s v) (hy:qfP w F gh q.e ys y) {R:List (Option (List q.e.den))×(Int×(Int×Int))}(hR:qfF q.rows s ys=some R)
  (hlo:s.2.1≤0) (hroom:(s.2.2+(ys.length:Int))*(bytes:Int)≤140737488355328):
  ∃v' W gh' nb',(Builtin.append_ #[t,t] ty #[v,y]).run P w=.ok v' W∧qaA (fun b=>b∈nb) w W∧qaJ gh gh'∧qL W (fun b=>F b∨(b∈nb∧b∉nb')) gh' (pset { q with rows:=R.1 } (roApp k q s ys ps)) nb'∧qe2 gh' k q.e.size R.2 v'∧nb'.Nodup∧
   ∀b∈nb',(w.heap.size≤b∧b<W.heap.size)∨b∈nb:=by
 have hform:=hs.form;rw[qj2]at hR;unfold qqK at hR;have hk:=(qcF hq).1;subst hk;have hk1:=(qcD hq).1;have hqm:=(qcF hq).2;obtain⟨b1,b2,b3,p1,p2,p3⟩:=(hh.1.roApp (s:=s) (ys:=ys) hRo).find (by grind [qoT]) (qqY hRo hq);have toF2:∀ {W:World}{gh':Nat→Nat→Option Value}{ps':List qQ}{nb':List Nat},qbC W F gh' ps' nb'→qbC W (fun b=>F b∨(b∈nb∧b∉nb')) gh' ps' nb':=fun h=>h.keep (fun b hb hl=>⟨.inl hb,hl,rfl⟩) rfl (fun _ _ _=>rfl);have keepF:∀ {W:World},qaA (fun b=>b∈nb) w W→∀b,F b→b<w.heap.size→F b∧b<W.heap.size∧W.heap[b]? =w.heap[b]? :=fun hk b hb hl=>⟨hb,zaq hl hk.size,hk.block b hl (hF0 b hb)⟩;split at hR
 ·
  rename_i hy0;injection hR with hR;subst hR;have hys:ys=[]:=zaz hy0;subst hys;obtain⟨A,n,c,rfl,_,f2,_⟩:=hform;have hyv:∃B c',y=.slice B 0 c':=by
   rcases hy with⟨_,h⟩|⟨ad,cap,_,h,_⟩;all_goals grind
  obtain⟨B,c',rfl⟩:=hyv;exact⟨_,w,gh,nb,qli t ty _ i ht hi f2,qaA.refl _ _,qaJ.refl _,by
   have hro:∀ro,qjL q.rows s ([]:List q.e.den) ro=ro:=fun ro=>by rw[qgF];simp[qkU]
   have h0:=p3 w F gh q b2 (fun b hb hl=>⟨hb,hl,rfl⟩) ⟨qaJ.refl _,fun _ _=>rfl⟩ (fun _ _ _=>rfl) rfl p2;rw[←p1]at h0;refine⟨toF2 h0,?_⟩;rw[ql4 hRo hro];refine qhX.add (q0:=q) (R:=q.rows) (bs:=nb) hn hqm hk1 (fun j ys h=>h) (qaJ.refl _) (fun b hb=>hb) (fun r hr hk=>qjF.mono (qaJ.refl _) (fun b hb hl=>⟨.inl hb,hl,rfl⟩) (fun b hb n _ hl=>⟨rfl,.inr ⟨hb,hl⟩⟩) (hh.2 r hr hk)),hs,hnb,fun b hb=>.inr hb⟩
 rename_i hy0;obtain⟨ad,cy,news,rfl,n1,n2,n3⟩:∃(ad:Addr) (cap:Nat) (cells:List Value),y=.slice (some ad) ys.length cap∧cells.length=ys.length*q.e.size∧(∀j u,cells[j]? =some u→w.cell? (ad.add j)=some u)∧∀i x,ys[i]? =some x→qa6 w F gh q.e x ((cells.drop (i*q.e.size)).take q.e.size):=by
  rcases hy with⟨h,_⟩|h;all_goals grind
 have hmax:∀n:Nat,((n:Int)+(ys.length:Int))*(bytes:Int)≤140737488355328→(n+ys.length)*bytes≤140737488355328∧n+ys.length≤maxLen:=fun n h=>by
  have h1:(((n+ys.length)*bytes:Nat):Int)≤140737488355328:=by
   grind
  have h2:(n+ys.length)*1≤(n+ys.length)*bytes:=Nat.mul_le_mul_left _ hbp;grind [maxLen]
 split at hR
 ·
  rename_i hnil;injection hR with hR;subst hR;have hv:s.2.2=0∧v=.slice none 0 0:=by
   rcases hs with⟨_,_,h1,h2⟩|⟨h0,_⟩;all_goals grind
  obtain⟨h0,rfl⟩:=hv;rw[h0]at hroom;obtain⟨m1,m2⟩:=hmax 0 (by omega);have hro:∀ro,qjL q.rows s ys ro=ro:=fun ro=>by grind [qgF,qkU]
  obtain⟨v',W,a1,a2,a3,a4,_⟩:=qI.app (w:=w) (F:=F) (gh:=gh) (ty:=ty) ht hi hz hsz hby hzs hpos (xs:=[]) (x:= .slice none 0 0) (bs:=[]) ⟨[],⟨by simp,.inl ⟨rfl,rfl⟩⟩,rfl,fun i x h=>by cases h⟩ (fun _ _ h=>by cases h) n1 n2 n3 (by simpa using m2) (by simpa using m1);rw[zaR]at a3;have hk:qaA (fun b=>b∈nb) w W:=a2.mono fun k hk=>by cases hk
  have hh':=qL.keep (keepF hk) (gh':=gh) rfl (fun b _ hl=>a2.block b hl (by simp)) hh;obtain⟨c1,c2,c3,q1,q2,q3⟩:=hh'.add hn hq a3;obtain⟨ad',cap',hv',hok⟩:=a3.form;have hperm:(c1++((c2++v'.ownBlock.toList)++c3)).Perm (v'.ownBlock.toList++nb):=by
   rw[q1];refine List.perm_iff_count.2 fun x=>?_;simp only[List.count_append];omega
  have hfresh:∀b∈v'.ownBlock.toList,w.heap.size≤b∧b<W.heap.size:=fun b hb=>by
   grind
  refine⟨v',W,_,_,a1,hk,q2.1,by rw[←qbW,ql4 hRo hro];exact q3.keep (fun b hb hl=>⟨.inl hb,hl,rfl⟩) rfl (fun _ _ _=>rfl),.inr ⟨?_,zaF _,?_,ad',ys.length,cap',?_,hok,zaF _,.inl ?_⟩,hperm.nodup_iff.2 (zai.2 ⟨by grind,hnb,fun x hx y hy e=>?_⟩),fun b hb=>?_⟩
  ·grind
  ·grind
  ·grind [zat,qfr]
  ·grind [zat,qbL]
  ·grind
  ·rcases zaf.1 (hperm.mem_iff.1 hb)with h|h;all_goals grind
 rename_i hnn;split at hR
 ·cases hR
 rename_i xs hxs;have hxs:qN q.rows s.1=some xs:=by rw[qa9];exact hxs
 obtain⟨hd,c1,c2,c3,g1,g2,g3,g4⟩:=p2.row hxs;rcases hs with⟨h0,_⟩|⟨s0,s1,s2,ad',n,cap,s3,s4,s5,s6⟩
 ·omega
 rw[g1]at s3;injection s3 with s3;subst s3;have hxn:xs.length=n:=by
  obtain⟨ad2,cap2,e1,_⟩:=g3.form;grind
 have hc2:∀b∈c2,b∈nb:=fun b hb=>by
  rw[p1,g2];exact zaa _ (zab _ (zaa _ (zab _ hb)))
 have hnd:b1.Nodup∧True:=⟨(zai.1 (p1▸hnb)).1,trivial⟩;have outk:∀ {W:World},qaA (fun k=>k∈c2) w W→(∀b,b∈b1∨b∈b3→b<w.heap.size→W.heap[b]? =w.heap[b]?)∧(∀b,b∈c1∨b∈c3→b<w.heap.size→W.heap[b]? =w.heap[b]?):=fun hk=>by
  have hn':(b1++((c1++(c2++c3))++b3)).Nodup:=by grind
  simp only[zai,zaf]at hn';obtain⟨_,⟨⟨_,⟨_,_,k1⟩,k2⟩,_,k3⟩,k4⟩:=hn';refine⟨fun b hb hl=>hk.block b hl fun hm=>?_,fun b hb hl=>hk.block b hl fun hm=>?_⟩;all_goals grind
 split at hR
 ·
  rename_i hin;injection hR with hR;subst hR;have hyl:0<ys.length:=Nat.pos_of_ne_zero hy0;have hs22:(s.2.2.toNat:Int)=s.2.2:=Int.toNat_of_nonneg (by omega);obtain⟨g,rfl⟩:∃g,ad'=some ⟨g,0,none⟩:=by
   rcases s4.2.2 with h|h;all_goals omega
  have hv:v=.slice (some ⟨g,0*q.e.size,none⟩) (s.2.2.toNat-0) (cap-0):=by
   rcases s6 with h|⟨h,_⟩
   ·rw[h,show s.2.1=0 by omega,Int.toNat_zero,Nat.zero_mul];unfold sliced;split
    ·rfl
    ·rw[Option.map_some,Addr.add_lit,Nat.zero_mul,zaP]
   ·omega
  obtain⟨W,e1,e2,e3,e4⟩:=g3.over (ty:=ty) (lo:=0) (hi':=s.2.2.toNat) ht hi hsz (fun x hx e=>hF0 x hx (hc2 x (by
   obtain⟨cells,_,r2,_⟩:=g3;rw[r2,e];exact zah.2 rfl))) n1 n2 n3 (qfP.ones hpos n1 n3) (zaD _) (by omega) (c:=cy)
  have hk2:qaA (fun k=>k∈c2) w W:=e2.mono fun k hk=>by grind
  have hk:qaA (fun b=>b∈nb) w W:=hk2.mono fun k hk=>hc2 k hk;obtain⟨o1,o2⟩:=outk hk2;have hpool:=g4 W F gh (some (xs.take s.2.2.toNat++ys++xs.drop (s.2.2.toNat+ys.length))) c2 (keepF hk) (qaJ.refl _) rfl o2 e4;have hheap:=p3 W F gh { q with rows:=q.rows.set s.1.toNat (some (xs.take s.2.2.toNat++ys++xs.drop (s.2.2.toNat+ys.length))) } _ (keepF hk) ⟨qaJ.refl _,fun _ _=>rfl⟩ o1 rfl hpool;rw[←g2,←p1]at hheap;have hct:∀b∈c2,∃cur,w.heap[b]? =some (.cells cur q.et (0,0)):=fun b hb=>by
   obtain⟨_,e2,e3,_⟩:=g3;rw[e3]at hb;exact qcW e2 hb
  refine⟨_,W,gh,nb,by rw[hv];exact e1,hk,qaJ.refl _,⟨toF2 hheap,fun r hr hrk=>?_⟩,.inr ⟨s0,s1,by grind,_,n,cap,g1,s4,by grind,.inl ?_⟩,hnb,fun b hb=>.inr hb⟩;show Value.slice _ _ _=sliced _ s.2.1.toNat (s.2.2+ys.length).toNat cap _;rw[show s.2.1=0 by omega,Int.toNat_zero,Nat.zero_mul,show(s.2.2+(ys.length:Int)).toNat=s.2.2.toNat-0+ys.length by omega];unfold sliced;split
  ·rfl
  ·rw[Option.map_some,Addr.add_lit,Nat.zero_mul,zaP];rfl
  ·rcases qhf hr with rfl|hr
   ·grind
   rcases qk0 hRo hn hr hrk with⟨ro,_,rfl⟩|⟨hr,hne⟩
   ·intro i zs hi;have:qjL q.rows s ys ro=[]:=by rw[qgF];unfold qkU;rw[if_neg hy0,if_neg hnn];rw[qa9]at hxs;rw[hxs];simp only;rw[if_pos (.inl hin)]
    grind
   ·refine qjF.yw hne (qaJ.refl _) (fun b hb hl=>⟨.inl hb,(keepF hk b hb hl).2⟩) (fun b hb hl=>⟨(Classical.em (b∈c2)).elim (fun e=>.inr (hct b e)) (fun e=>.inl (hk2.block b hl e)),.inr hb⟩) (fun p hp hpe=>?_) (hh.2 r hr hrk);refine qds (fun e=>hpe (by grind [qeQ])) (qiE hRo hn hp fun e=>?_);rcases qiW hRo hp (by omega)with h|h;all_goals omega
 split at hR
 ·rename_i hgr;injection hR with hR;subst hR;obtain⟨hh1,hh2⟩:=hgr;have hv:v=.slice ad' n cap:=by
   rcases s6 with h|⟨h,_⟩
   ·rw[h,hh2,hh1,Int.toNat_zero,zat,hxn,qbL]
   ·omega
  rw[hh1]at hroom;obtain⟨m1,m2⟩:=hmax xs.length hroom;obtain⟨v',W,a1,a2,a3,a4,aold⟩:=qI.app (ty:=ty) ht hi hz hsz hby hzs hpos g3 (fun b hb hm=>hF0 b hb (hc2 b hm)) (c:=cy) n1 n2 n3 m2 m1;have hk:qaA (fun b=>b∈nb) w W:=a2.mono fun k hk=>hc2 k hk;obtain⟨o1,o2⟩:=outk a2;have hdead:=g4 W F gh none [] (keepF hk) (qaJ.refl _) rfl o2 rfl;have qdc:=qbA.add (p:= { q with rows:=q.rows.set s.1.toNat none }) hdead a3;obtain⟨ad2,cap2,hv',hok⟩:=a3.form;have hgn:gh q.k (q.rows.set s.1.toNat none).length=none:=by
   obtain⟨_,_,_,g,_⟩:=p2;exact g _ (by simp)
  have hout:=qg1 (hd:=v') hgn;have hheap:=p3 W F _ { q with rows:=q.rows.set s.1.toNat none++[some (xs++ys)] } _ (keepF hk) hout o1 rfl qdc;have hfresh:∀b∈v'.ownBlock.toList,(w.heap.size≤b∧b<W.heap.size)∨b∈c2:=a4;have hn':(b1++((c1++(c2++c3))++b3)).Nodup:=by grind
  have hperm1:(b1++(((c1++([]++c3))++v'.ownBlock.toList)++b3)).Perm (v'.ownBlock.toList++(b1++(c1++(c3++b3)))):=List.perm_iff_count.2 fun x=>by
   simp only[List.count_append,List.count_nil];omega
  have hperm2:(b1++((c1++(c2++c3))++b3)).Perm (c2++(b1++(c1++(c3++b3)))):=List.perm_iff_count.2 fun x=>by
   simp only[List.count_append];omega
  have hn2:=hperm2.nodup_iff.1 hn';rw[zai]at hn2;have hrest:∀b∈b1++(c1++(c3++b3)),b∈nb:=fun b hb=>by
   rw[p1,g2];exact hperm2.mem_iff.2 (zaa _ hb)
  have hxsr:=(qbN hxs).2;have hidl:s.1.toNat<q.rows.length:=(zaK.1 hxsr).1;have hct:∀b∈c2,∃cur,w.heap[b]? =some (.cells cur q.et (0,0)):=fun b hb=>by
   obtain⟨_,e2,e3,_⟩:=g3;rw[e3]at hb;exact qcW e2 hb
  have hc2e:c2=(Value.slice ad' n cap).ownBlock.toList:=by obtain⟨_,_,e3,_⟩:=g3;exact e3
  have hge:∀b∈nb,b∈c2∨b∈b1++(c1++(c3++b3)):=fun b hb=>by
   rw[p1,g2]at hb;exact zaf.1 (hperm2.mem_iff.1 hb)
  have hq':({ q with rows:=q.rows.set s.1.toNat none++[some (xs++ys)] }:qQ)∈pset { q with rows:=q.rows.set s.1.toNat none++[some (xs++ys)] } (roApp q.k q s ys ps):=qeG (q:= { q with rows:=q.rows.set s.1.toNat none++[some (xs++ys)] }) (q0:=q) rfl (qiE hRo hn hqm (by omega));have newLive:∀(b m:Nat),v'.ownBlock=some b→m≤xs.length→qgp (pset { q with rows:=q.rows.set s.1.toNat none++[some (xs++ys)] } (roApp q.k q s ys ps)) (qfr gh q.k (q.rows.set s.1.toNat none).length v') q.k q.et m b:=fun b m hb hm=>by
   refine⟨_,hq',rfl,rfl,(q.rows.set s.1.toNat none).length,xs++ys,v',by simp,qd3,by rw[hb];simp,by rw[zag];omega⟩
  have hroall:qhX W (fun b=>F b∨(b∈nb∧b∉b1++(((c1++([]++c3))++v'.ownBlock.toList)++b3))) (qfr gh q.k (q.rows.set s.1.toNat none).length v') (b1++(((c1++([]++c3))++v'.ownBlock.toList)++b3)) (pset { q with rows:=q.rows.set s.1.toNat none++[some (xs++ys)] } (roApp q.k q s ys ps)):=by
   have hF2:∀b,F b→b<w.heap.size→(F b∨(b∈nb∧b∉b1++(((c1++([]++c3))++v'.ownBlock.toList)++b3)))∧b<W.heap.size∧W.heap[b]? =w.heap[b]? :=fun b hb hl=>⟨.inl hb,(keepF hk b hb hl).2⟩;have gone:∀b∈c2,v'.ownBlock≠some b→b∉b1++(((c1++([]++c3))++v'.ownBlock.toList)++b3):=fun b hb hv hm=>by
    rcases zaf.1 (hperm1.mem_iff.1 hm)with h|h
    ·exact hv (by simpa using h)
    ·exact hn2.2.2 b hb b h rfl
   have stay:∀b∈b1++(c1++(c3++b3)),b∈b1++(((c1++([]++c3))++v'.ownBlock.toList)++b3):=fun b hb=>hperm1.mem_iff.2 (zaa _ hb);intro r hr hrk;rcases qhf hr with rfl|hr
   ·grind
   rcases qk0 hRo hn hr hrk with⟨ro,hrom,rfl⟩|⟨hr,hne⟩
   ·have ho:qjL q.rows s ys ro=(ro++zaT (s.1.toNat+1-ro.length) none).set s.1.toNat (some xs):=by
     rw[qgF];unfold qkU;rw[if_neg hy0,if_neg hnn];rw[qa9]at hxs;rw[hxs];simp only;rw[if_neg (by omega)]
    have old:=hh.2 _ hrom (by omega);have fin:∀(zs:List q.e.den) (hd0:Value),qI w F gh q.et q.e zs hd0 hd0.ownBlock.toList→(∀b∈hd0.ownBlock.toList,F b∨(b∈c2∧zs.length≤xs.length)∨(b∈b1++(c1++(c3++b3))∧qgp (pset { q with rows:=q.rows.set s.1.toNat none++[some (xs++ys)] } (roApp q.k q s ys ps)) (qfr gh q.k (q.rows.set s.1.toNat none).length v') q.k q.et zs.length b))→
      qI W (fun b=>F b∨(b∈nb∧b∉b1++(((c1++([]++c3))++v'.ownBlock.toList)++b3))) (qfr gh q.k (q.rows.set s.1.toNat none).length v') q.et q.e zs hd0 hd0.ownBlock.toList∧∀b∈hd0.ownBlock.toList,(F b∨(b∈nb∧b∉b1++(((c1++([]++c3))++v'.ownBlock.toList)++b3)))∨(b∈b1++(((c1++([]++c3))++v'.ownBlock.toList)++b3)∧qgp (pset { q with rows:=q.rows.set s.1.toNat none++[some (xs++ys)] } (roApp q.k q s ys ps)) (qfr gh q.k (q.rows.set s.1.toNat none).length v') q.k q.et zs.length b):=by
     intro zs hd0 hz0 hb0;refine⟨hz0.pfx (m:=xs.length) hF2 hout.1 fun b hm=>?_,fun b hm=>?_⟩
     ·have hbl:b<w.heap.size:=by obtain⟨_,e2,_,_⟩:=hz0;exact qi9 e2 hm
      rcases hb0 b hm with h|⟨h,hle⟩|⟨h,_⟩
      ·exact .inl (keepF hk b h hbl).2.2
      ·rcases aold b h with h2|⟨_,cur,cur',h3,h4,h5,h6⟩
       ·exact .inl h2
       ·exact .inr ⟨cur,cur',h3,h4,h5,h6,hle⟩
      ·exact .inl (a2.block b hbl fun h2=>hn2.2.2 b h2 b h rfl)
     ·rcases hb0 b hm with h|⟨h,hle⟩|⟨h,hl⟩
      ·grind
      ·by_cases hvb:v'.ownBlock=some b
       ·refine .inr ⟨hperm1.mem_iff.2 (zab _ (by rw[hvb];simp)),newLive b _ hvb hle⟩
       ·exact .inl (.inr ⟨hc2 b h,gone b h hvb⟩)
      ·exact .inr ⟨stay b h,hl⟩
    intro i zs hi;have hi:((ro++zaT (s.1.toNat+1-ro.length) none).set s.1.toNat (some xs))[i]? =some (some zs):=by grind
    show ∃hd,qfr gh q.k (q.rows.set s.1.toNat none).length v' (100+q.k-100) i=some hd∧_;rw[show 100+q.k-100=q.k by omega];by_cases hie:i=s.1.toNat
    ·subst hie;have hlen:s.1.toNat<(ro++zaT (s.1.toNat+1-ro.length) (none:Option (List q.e.den))).length:=by simp;omega
     rw[List.getElem?_set_self hlen]at hi;injection hi with hi;injection hi with hi;subst hi;exact⟨.slice ad' n cap,hout.1 _ _ _ g1,by simpa[show 100+q.k-100=q.k by omega]using fin xs (.slice ad' n cap) (hc2e▸g3) fun b hm=>.inr (.inl ⟨hc2e▸hm,zax _⟩)⟩
    ·rw[List.getElem?_set_ne (fun e=>hie e.symm)]at hi;have hir:ro[i]? =some (some zs):=by
      by_cases hlt':i<ro.length
      ·rwa [List.getElem?_append_left hlt']at hi
      ·rw[List.getElem?_append_right (by omega),List.getElem?_replicate]at hi;split at hi;all_goals grind
     obtain⟨hd0,o1,o2,o3⟩:=old i zs hir;have o1:gh (100+q.k-100) i=some hd0:=o1;rw[show 100+q.k-100=q.k by omega]at o1;refine⟨hd0,hout.1 _ _ _ o1,?_⟩;have key:=fin zs hd0 o2 (fun b hm=>by
      rcases o3 b hm with h|⟨hbn,p',g1',g2',g3',j,ys0,hdj,g4',g5',g6',g7'⟩
      ·exact .inl h
      ·have g2':p'.k=q.k:=by grind
       have:=qeQ hn g1' hqm g2';subst this;have g5':gh (100+p'.k-100) j=some hdj:=g5';rw[show 100+p'.k-100=p'.k by omega]at g5';rcases hge b hbn with hbc|hbc
       ·have hji:s.1.toNat=j:=p2.uniq (zai.1 (zai.1 (p1▸hnb)).2.1).1 hxsr g4' g1 g5' (hc2e▸hbc) g6';grind
       ·refine .inr (.inr ⟨hbc,_,hq',rfl,rfl,j,ys0,hdj,?_,hout.1 _ _ _ g5',g6',g7'⟩);have hjne:s.1.toNat≠j:=fun e=>by
         subst e;rw[g1]at g5';injection g5' with g5';subst g5';exact hn2.2.2 b (hc2e▸g6') b hbc rfl
        have hjl:=(zaK.1 g4').1;show(p'.rows.set s.1.toNat none++[some (xs++ys)])[j]? =_;rw[List.getElem?_append_left (by simpa using hjl),List.getElem?_set_ne hjne];exact g4')
     omega
   ·refine qjF.yw hne hout.1 hF2 (fun b hb hl=>⟨(Classical.em (b∈c2)).elim (fun e=>.inr (hct b e)) (fun e=>.inl (a2.block b hl e)),?_⟩) (fun p hp hpe=>?_) (hh.2 r hr hrk)
    ·grind
    ·refine qds (fun e=>hpe (by rw[qeQ hn hp hqm e])) (qiE hRo hn hp fun e=>?_);rcases qiW hRo hp (by omega)with h|h;all_goals omega
  refine⟨v',W,_,_,by grind,hk,hout.1,⟨toF2 hheap,hroall⟩,.inr ⟨?_,zaF _,?_,ad2,(xs++ys).length,cap2,?_,hok,?_,.inl ?_⟩,hperm1.nodup_iff.2 (zai.2 ⟨by cases v'.ownBlock<;>simp,hn2.2.1,fun x hx y hy e=>?_⟩),fun b hb=>?_⟩
  ·grind
  ·grind
  ·show qfr gh q.k (q.rows.set s.1.toNat none).length v' q.k ((q.rows.length:Int)).toNat=_;rw[zat,List.length_set,qd3,hv']
  ·grind
  ·show v'=sliced ad2 0 (s.2.2+(ys.length:Int)).toNat cap2 _;rw[show(s.2.2+(ys.length:Int)).toNat=(xs++ys).length by grind,qbL];exact hv'
  ·subst e;rcases hfresh x hx with h|h
   ·have:=hlt x (hrest x hy);omega
   ·exact hn2.2.2 x h x hy rfl
  ·rcases zaf.1 (hperm1.mem_iff.1 hb)with h|h
   ·exact(hfresh b h).imp id (hc2 b)
   ·exact .inr (hrest b h)
 ·split at hR;case isFalse=>cases hR
  rename_i hgr;injection hR with hR;subst hR;obtain⟨hh1,hh2⟩:=hgr;have hs22:(s.2.2.toNat:Int)=s.2.2:=Int.toNat_of_nonneg hh2;have hmx:s.2.2.toNat<xs.length:=by
   rename_i hA hB;simp only[not_and]at hB;by_cases h:s.2.2=(xs.length:Int)
   ·exact absurd hh1 (hB h)
   ·omega
  obtain⟨g,rfl⟩:∃g,ad'=some ⟨g,0,none⟩:=by
   rcases s4.2.2 with h|h
   ·omega
   ·exact h
  have hv:v=.slice (some ⟨g,0,none⟩) s.2.2.toNat cap:=by
   rcases s6 with h|⟨h,_⟩
   ·rw[h,hh1,Int.toNat_zero,qbL]
   ·omega
  obtain⟨zs,hzs'⟩:∃zs,zs=xs.take s.2.2.toNat:=⟨_,rfl⟩;have hzl:zs.length=s.2.2.toNat:=by rw[hzs',zae];omega
  have g3:qI w F gh q.et q.e zs (.slice (some ⟨g,0,none⟩) s.2.2.toNat cap) c2:=by rw[hzs'];exact g3.cut (by omega)
  rw[←hzs'];obtain⟨m1,m2⟩:=hmax zs.length (by rw[hzl,hs22];exact hroom);obtain⟨v',W,a1,a2,a3,a4,aold⟩:=qI.app (ty:=ty) ht hi hz hsz hby hzs hpos g3 (fun b hb hm=>hF0 b hb (hc2 b hm)) (c:=cy) n1 n2 n3 m2 m1;have hk:qaA (fun b=>b∈nb) w W:=a2.mono fun k hk=>hc2 k hk;obtain⟨o1,o2⟩:=outk a2;have hdead:=g4 W F gh none [] (keepF hk) (qaJ.refl _) rfl o2 rfl;have qdc:=qbA.add (p:= { q with rows:=q.rows.set s.1.toNat none }) hdead a3;obtain⟨ad2,cap2,hv',hok⟩:=a3.form;have hgn:gh q.k (q.rows.set s.1.toNat none).length=none:=by
   obtain⟨_,_,_,g,_⟩:=p2;exact g _ (by simp)
  have hout:=qg1 (hd:=v') hgn;have hheap:=p3 W F _ { q with rows:=q.rows.set s.1.toNat none++[some (zs++ys)] } _ (keepF hk) hout o1 rfl qdc;have hfresh:∀b∈v'.ownBlock.toList,(w.heap.size≤b∧b<W.heap.size)∨b∈c2:=a4;have hn':(b1++((c1++(c2++c3))++b3)).Nodup:=by rw[←g2,←p1];exact hnb
  have hperm1:(b1++(((c1++([]++c3))++v'.ownBlock.toList)++b3)).Perm (v'.ownBlock.toList++(b1++(c1++(c3++b3)))):=List.perm_iff_count.2 fun x=>by
   simp only[List.count_append,List.count_nil];omega
  have hperm2:(b1++((c1++(c2++c3))++b3)).Perm (c2++(b1++(c1++(c3++b3)))):=List.perm_iff_count.2 fun x=>by
   simp only[List.count_append];omega
  have hn2:=hperm2.nodup_iff.1 hn';rw[zai]at hn2;have hrest:∀b∈b1++(c1++(c3++b3)),b∈nb:=fun b hb=>by
   rw[p1,g2];exact hperm2.mem_iff.2 (zaa _ hb)
  have hxsr:=(qbN hxs).2;have hidl:s.1.toNat<q.rows.length:=(zaK.1 hxsr).1;have hct:∀b∈c2,∃cur,w.heap[b]? =some (.cells cur q.et (0,0)):=fun b hb=>by
   obtain⟨_,e2,e3,_⟩:=g3;rw[e3]at hb;exact qcW e2 hb
  have hge:∀b∈nb,b∈c2∨b∈b1++(c1++(c3++b3)):=fun b hb=>by
   rw[p1,g2]at hb;exact zaf.1 (hperm2.mem_iff.1 hb)
  have hq':({ q with rows:=q.rows.set s.1.toNat none++[some (zs++ys)] }:qQ)∈pset { q with rows:=q.rows.set s.1.toNat none++[some (zs++ys)] } (roApp q.k q s ys ps):=qeG (q:= { q with rows:=q.rows.set s.1.toNat none++[some (zs++ys)] }) (q0:=q) rfl (qiE hRo hn hqm (by omega));have hroall:qhX W (fun b=>F b∨(b∈nb∧b∉b1++(((c1++([]++c3))++v'.ownBlock.toList)++b3))) (qfr gh q.k (q.rows.set s.1.toNat none).length v') (b1++(((c1++([]++c3))++v'.ownBlock.toList)++b3)) (pset { q with rows:=q.rows.set s.1.toNat none++[some (zs++ys)] } (roApp q.k q s ys ps)):=by
   have hF2:∀b,F b→b<w.heap.size→(F b∨(b∈nb∧b∉b1++(((c1++([]++c3))++v'.ownBlock.toList)++b3)))∧b<W.heap.size∧W.heap[b]? =w.heap[b]? :=fun b hb hl=>⟨.inl hb,(keepF hk b hb hl).2⟩;have gone:∀b∈c2,v'.ownBlock≠some b→b∉b1++(((c1++([]++c3))++v'.ownBlock.toList)++b3):=fun b hb hv hm=>by
    rcases zaf.1 (hperm1.mem_iff.1 hm)with h|h
    ·exact hv (by simpa using h)
    ·exact hn2.2.2 b hb b h rfl
   have stay:∀b∈b1++(c1++(c3++b3)),b∈b1++(((c1++([]++c3))++v'.ownBlock.toList)++b3):=fun b hb=>hperm1.mem_iff.2 (zaa _ hb);intro r hr hrk;rcases qhf hr with rfl|hr
   ·exact absurd hrk (by show ¬100≤q.k;omega)
   rcases qk0 hRo hn hr hrk with⟨ro,hrom,rfl⟩|⟨hr,hne⟩
   ·intro i zs hi;have:qjL q.rows s ys ro=[]:=by rw[qgF];unfold qkU;rw[if_neg hy0,if_neg hnn];rw[qa9]at hxs;rw[hxs];simp only;rw[if_pos (by omega)]
    rw[show(qQ.mk (100+q.k) q.et q.e (qjL q.rows s ys ro)).rows=[]from this]at hi;cases hi
   ·refine qjF.yw hne hout.1 hF2 (fun b hb hl=>⟨(Classical.em (b∈c2)).elim (fun e=>.inr (hct b e)) (fun e=>.inl (a2.block b hl e)),?_⟩) (fun p hp hpe=>?_) (hh.2 r hr hrk)
    ·rcases hge b hb with h|h
     ·by_cases hvb:v'.ownBlock=some b
      ·exact .inr (hperm1.mem_iff.2 (zab _ (by rw[hvb];simp)))
      ·exact .inl (.inr ⟨hb,gone b h hvb⟩)
     ·exact .inr (stay b h)
    ·refine qds (fun e=>hpe (by rw[qeQ hn hp hqm e])) (qiE hRo hn hp fun e=>?_);rcases qiW hRo hp (by omega)with h|h
     ·exact hpe h.2.1
     ·exact h.1 e
  refine⟨v',W,_,_,by rw[hv];exact a1,hk,hout.1,⟨toF2 hheap,hroall⟩,.inr ⟨?_,zaF _,?_,ad2,(zs++ys).length,cap2,?_,hok,?_,.inl ?_⟩,hperm1.nodup_iff.2 (zai.2 ⟨by cases v'.ownBlock<;>simp,hn2.2.1,fun x hx y hy e=>?_⟩),fun b hb=>?_⟩
  ·show(0:Int)≤(q.rows.length:Int);omega
  ·show(0:Int)≤s.2.2+(ys.length:Int);omega
  ·show qfr gh q.k (q.rows.set s.1.toNat none).length v' q.k ((q.rows.length:Int)).toNat=_;rw[zat,List.length_set,qd3,hv']
  ·show s.2.2+(ys.length:Int)≤_;rw[zag];omega
  ·show v'=sliced ad2 0 (s.2.2+(ys.length:Int)).toNat cap2 _;rw[show(s.2.2+(ys.length:Int)).toNat=(zs++ys).length by rw[zag];omega,qbL];exact hv'
  ·subst e;rcases hfresh x hx with h|h
   ·have:=hlt x (hrest x hy);omega
   ·exact hn2.2.2 x h x hy rfl
  ·rcases zaf.1 (hperm1.mem_iff.1 hb)with h|h
   ·exact(hfresh b h).imp id (hc2 b)
   ·exact .inr (hrest b h)
theorem qiV {α:Type}{rows:List (Option (List α))}{s:Int×(Int×Int)}{ys:List α}(h:qcJ rows s=some ys):(s.1= -1∧ys=[])∨∃xs,qN rows s.1=some xs∧ys=(xs.take s.2.2.toNat).drop s.2.1.toNat:=by
 rw[qls]at h;split at h
 ·grind
 ·right;rw[←qa9]at h;cases hr:qN rows s.1 with
  |none=>grind
  |some xs=>
   grind
theorem qI.part {et:Nat}{e:Ty}{xs:List e.den}{ad:Option Addr}{n cap:Nat}{bs:List Nat}(h:qI w F gh et e xs (.slice ad n cap) bs) {lo hi:Nat}(h1:lo≤hi) (h2:hi≤n):qfP w F gh e ((xs.take hi).drop lo) (sliced ad lo hi cap e.size):=by
 obtain⟨ad',cap',e1,e2,e3,e4⟩:=h.form;injection e1 with e1 en ec;subst e1;subst en;subst ec;have hlen:((xs.take hi).drop lo).length=hi-lo:=by grind
 by_cases hlt:lo=hi
 ·refine .inl ⟨zaz (by omega),?_⟩;grind [sliced]
 obtain⟨g,rfl⟩:∃g,ad=some ⟨g,0,none⟩:=by
  grind
 obtain⟨cells,r1,r2,r3⟩:=h;have hcl:cells.length=xs.length*e.size:=r1.1;have m1:hi*e.size≤xs.length*e.size:=zam _ h2;have m2:lo*e.size≤hi*e.size:=zam _ h1;refine .inr ⟨⟨g,lo*e.size,none⟩,cap-lo,(cells.take (hi*e.size)).drop (lo*e.size),?_,?_,fun j u hj=>?_,fun j x hj=>?_⟩
 ·grind [Addr.add_lit,sliced]
 ·grind [Nat.sub_mul]
 ·rw[zav,zap]at hj;split at hj
  ·have:=r1.cells (g:=g) rfl _ _ hj;grind [Addr.add_lit]
  ·cases hj
 ·rw[zav,zap]at hj;split at hj
  ·rename_i hjl;have:=r3 _ _ hj;have m3:(lo+j+1)*e.size≤hi*e.size:=zam _ hjl;grind [zaS,List.drop_drop,List.drop_take]
  ·cases hj
end
section
variable {C:Ctx}{E:Env}{σ:St}{tm:Array Value}{a:Act}{w w':World}{own:Own}{o:Oper}{p:qdU} [Tabbed E C]
theorem qqG {q:qQ}{y1:Op1}{y:Value}{ps:List qQ}{nb:List Nat}{gh':Nat→Nat→Option Value}(ho:qaC (sit C σ tm w own) y1 y) (hg:qaJ own.gh gh') (hn:(ps.map (·.k)).Nodup) (hh:qL w (C.free w own) gh' ps nb) (hq:qcg q.k ps=some q) {r:List q.e.den×List Bool}
  (he:qo8 q y1=some r) (hc:qb9 r.2):qfP w (C.free w own) gh' q.e r.1 y:=by
 obtain⟨os,ov,oa⟩:=y1;have gen:∀ {e:Ty}{et:Nat}{ys:List e.den}{bs:List Nat},qI w (C.free w own) gh' et e ys y bs→(Ty.as (t:= .slice e) (.slice q.e) ys).map (fun z=>(z,([]:List Bool)))=some r→qfP w (C.free w own) gh' q.e r.1 y:=by
  intro e et ys bs hr hz;cases hz':Ty.as (t:= .slice e) (.slice q.e) ys with
  |none=>grind
  |some zs=>
   rw[hz']at hz;injection hz with hz;subst hz;obtain⟨e1,e2⟩:=Ty.yd hz';injection e1 with e1;subst e1;have e2:ys=zs:=e2;subst e2;exact hr.hrowAt
 have keepB:∀ {et:Nat}{e:Ty}{ys:List e.den}{bs:List Nat},qI w (C.free w own) own.gh et e ys y bs→qI w (C.free w own) gh' et e ys y bs:=fun h=>qI.keep (fun b hb hl=>⟨hb,hl,rfl⟩) hg (fun _ _ _=>rfl) h;unfold qo8 at he;split at he
 ·rename_i et e ys ha;simp only at ha;subst ha;cases os with
  |none=>exact gen (qO.toH (bs:=[]) ho) he
  |some s=>exact gen (qO.toH ho.2.2) he
 ·rename_i et e ys ha;simp only at ha;subst ha;cases os with
  |none=>exact gen (keepB (bs:=[]) ho) he
  |some s=>exact gen (keepB ho.2.2) he
 ·rename_i et e ha;simp only at ha;subst ha;injection he with he;subst he;exact .inl ⟨rfl,_,_,(ho.unowned rfl).2⟩
 ·rename_i k sz s ha;simp only at ha;subst ha;split at he;case isFalse=>cases he
  rename_i hk;obtain⟨rfl,rfl⟩:=hk;injection he with he;subst he;have hsl:qe2 gh' q.k q.e.size s y:=qe2.mono hg (qf6 ho rfl);have hsome:=hc _ (zah.2 rfl);rw[qaI]at hsome;obtain⟨ys,hys⟩:=zaE.1 hsome;show qfP w _ gh' q.e (qy (qcJ q.rows s) []) y;rw[hys,qbh];show qfP w _ gh' q.e ys y;rcases qiV hys with⟨h0,rfl⟩|⟨xs,hxs,rfl⟩
  ·rcases hsl with⟨_,_,_,rfl⟩|⟨h1,_⟩
   ·exact .inl ⟨rfl,_,_,rfl⟩
   ·omega
  ·rcases hsl with⟨h1,_⟩|⟨h0,h1,h2,ad,n,cap,h3,h4,h5,h6⟩
   ·have:=(qbN hxs).1;omega
   ·obtain⟨b1,b2,b3,p1,p2,p3⟩:=hh.find hn hq;obtain⟨hd,c1,c2,c3,g1,g2,g3,g4⟩:=p2.row hxs;rw[h3]at g1;injection g1 with g1;subst g1;have hp:=g3.part (lo:=s.2.1.toNat) (hi:=s.2.2.toNat) (by omega) (by omega);rcases h6 with rfl|⟨k1,k2,A,c,rfl⟩
    ·exact hp
    ·refine .inl ⟨zaz ?_,_,_,rfl⟩;grind
 ·cases he
theorem quh (hE:qad E C.P) (h:qK C σ a.tmps w own) {t k sz:Nat}(ht:E.hty t=some (.sl k sz)) {x1 y1:Op1}{x y:Value}(hx:qaC (sit C σ a.tmps w own) x1 x) (hy:qaC (sit C σ a.tmps w own) y1 y) {f:Eff}
  (he:(quU E o t k sz x1 y1).run (qj σ)=some (some f)) (hd:∀u∈f.upd,u.s<σ.length) (hc:qb9 f.chk)
  (hr:∃ty,(execOp a.eval o).run C.P w=((Builtin.append_ #[t,t] ty #[x,y]).run C.P w).andThen fun v w=>.ok (.value v) w):qb5 C o a w (qh σ f.upd):=by
 unfold quU at he;split at he;case h_2=>cases he
 rename_i d hdst;obtain⟨ps,hps,he⟩:=Q.ya he;obtain⟨hs,hn,hh,hnp⟩:=qb7 h hps;obtain⟨c,hcc,he⟩:=Q.ya he;have hco:=qn2 (C:=C) (σ:=σ) (qaJ.refl _) hn hh hx hcc;obtain⟨gh',nb,g1,g2,g3,g4,g5,g6,g7⟩:=hco.2.nodup h (qe4 hco.1);split at he;case h_2=>cases he
 rename_i q hq;split at he;case isFalse=>cases he
 rename_i hcond;obtain⟨⟨c1,c2,c3⟩,c4,c5,c6,c7⟩:=hcond;split at he;case h_2=>cases he
 rename_i ys hys;have:=Q.yb he;injection this with this;subst this;have hk:=(qcF hq).1;subst hk;obtain⟨v',e1,e2⟩:=g2.1;rw[qaN (g2.2.2 rfl)]at e1;injection e1 with e1;subst e1;have hc1:qb9 ys.2:=fun b hb=>hc b (zab _ hb);have qN:=qqG hy g1 g3 g4 hq hys hc1;have hok:=hc _ (zaa _ (zar ..));have hlo:=hc _ (zaa _ (zaj _ (zar ..)));have hro:=hc _ (zaa _ (zaj _ (zaj _ (zar ..))));rw[qaI]at hok;obtain⟨R,hR⟩:=zaE.1 hok;rw[qdZ]at hlo;rw[qgY,qv]at hro;obtain⟨i,z,k1,k2,k3,k4,k5⟩:=hE.heap.elem t _ _ ht;obtain⟨ty,hr⟩:=hr;have hlt:∀b∈nb,b<w.heap.size:=fun b hb=>by
  rcases g7 b hb with h1|⟨u,_,h1⟩<;>exact(h.mine _ b h1).2
 have hF0:∀b,C.free w own b→b∉nb:=fun b hb hm=>by
  rcases g7 b hm with h1|⟨u,_,h1⟩<;>exact hb.2.2 _ h1
 subst c2;obtain⟨v',W,gh2,nb2,a1,a2,a3,a4,a5,a6,a7⟩:=qsV (P:=C.P) (w:=w) (t:=t) (ty:=ty) (bytes:=E.bytes q.et) g3 g4 hq (by rw[c1];exact(hE.heap.sl t _ _ ht).1) (by grind) k3 k2 (by grind) k4 c3 c4 hF0 g6 hlt c7 e2 qN hR (of_decide_eq_true hlo) (of_decide_eq_true hro);refine qt (v:=v') (w':=W) (by simp_all) ?_;rw[qdG a hdst];have hRg:qy (qfF q.rows c.1 ys.1) (q.rows,c.1)=R:=by rw[hR,qbh];rfl
 have hdu:d∉c.2.2.map (·.s):=by simpa using c6
 show ∃own',qK C (qh σ (c.2.2++(⟨E.hs,true,.heap (pset { q with rows:=(qy (qfF q.rows c.1 ys.1) (q.rows,c.1)).1 } (roApp q.k q c.1 ys.1 c.2.1))⟩::[⟨d,true,.hv (.sl q.k q.e.size) (qy (qfF q.rows c.1 ys.1) (q.rows,c.1)).2⟩]))) _ _ own';simp only[hRg]at hd⊢
 refine h.heapT2 (F2:=fun b=>C.free w own b∨(b∈nb∧b∉nb2)) (hnp:=hnp) g5 [⟨d,true,.hv (.sl q.k q.e.size) R.2⟩] [] (.inr ⟨d,_,rfl,c5,hdu,⟨rfl,rfl⟩,by simp,fun s hs=>qay _ _ hs⟩) (fun k' i v hv=>a3 _ _ _ (g1 _ _ _ hv)) hd (a2.mono fun b hb=>?_) (by grind [qe5,qoT]) a4
  (fun b hb hl=>hb.imp id fun hb=>⟨.inr (g7 b hb.1),hb.2,by simp⟩) (fun b hb=>⟨zaq hb.2.1 a2.size,a2.block b hb.2.1 (hF0 b hb)⟩) ⟨a6,zaA,fun _ _=>(by simp),fun b hb=>?_⟩ (fun u hu X' x1 x2 x3 x4 x5 x6=>?_)
 ·grind
 ·grind
 ·rw[zah]at hu;subst hu;have hdl:d<σ.length:=hd ⟨d,true,.hv (.sl q.k q.e.size) R.2⟩ (by simp);show qS X' _ ((a.tmps.setIfInBounds d v').getD d undef) [];rw[qbn _ _ (by rw[h.size];exact hdl)];obtain⟨A,n,c',hv',_⟩:=a5.form;exact⟨rfl,⟨v',by rw[hv'];rfl,by grind⟩,fun h=>(by cases h),fun _ cs h=>by grind⟩
end
end Go.Vi
namespace Go.Vi
open Go.RowKit
section
variable {C:Ctx}{E:Env}{σ:St}{tm:Array Value}{a:Act}{w w':World}{own:Own}{o:Oper}{p:qdU} [Tabbed E C]
theorem qjk (h:qK C σ a.tmps w own) {qs:List (Nat×Op1)}{vs:List (Nat×Value)}(hqs:qeq (sit C σ a.tmps w own) qs vs):
  (T:Ty)→(i:Nat)→{gh0:Nat→Nat→Option Value}→{nb0:List Nat}→(hg0:qaJ own.gh gh0)→{ps:List qQ}→(hn:(ps.map (·.k)).Nodup)→(hh:qL w (C.free w own) gh0 ps nb0)→{zs:List Value}→{r:T.den×List qQ×List U}→(∀gh,qa6 w (C.free w own) gh T T.dflt zs)→(qlk E ps T i qs).run (qj σ)=some r→
  ∃(css zss:List (List Value)),zs=zss.flatten∧zss.map List.length=qaa T∧css.map List.length=qaa T∧qaw E w (C.free w own) own gh0 nb0 r.2 (fun gh'=>qa6 w (C.free w own) gh' T r.1 css.flatten)∧
   (∀k,k<css.length→css[k]? =match vs.find? (fun q=>q.1==i+k)with
    |some q=>some q.2.cells.toList
    |none=>zss[k]?)∧∀k q,k<css.length→vs.find? (fun q=>q.1==i+k)=some q→some q.2.cells.toList.length=(qaa T)[k]?
 |.pair A B,i,gh0,nb0,hg0,ps,hn,hh,zs,r,hz,he=>by
  unfold qlk at he;have hf:=hqs.find i;have hz1:∀gh,qa6 w (C.free w own) gh A A.dflt (zs.take A.size)∧qa6 w (C.free w own) gh B B.dflt (zs.drop A.size):=fun gh=>by
   obtain⟨c1,c2,e,k1,k2⟩:=hz gh;have hl:=k1.length;rw[e,List.take_left' hl,List.drop_left' hl];exact⟨k1,k2⟩
  have hl1:(zs.take A.size).length=A.size:=(hz1 own.gh).1.length;split at he
  ·rename_i q hq;rw[hq]at hf;obtain⟨v,hv,ho⟩:=hf;obtain⟨c,h1,he⟩:=Q.ya he;obtain⟨r',h2,he⟩:=Q.ya he;obtain⟨_,gh1,nb1,m1,m2,m3,m4,m5,m6,m7⟩:=qhn h hg0 hn hh ho h1;obtain⟨css,zss,g1,g2,g2',g3,g6,g7⟩:=qjk h hqs B (i+1) (hg0.trans m1) m3 m4 (fun gh=>(hz1 gh).2) h2;have:=Q.yb he;subst this;have hA:v.2.cells.toList.length=A.size:=m2.1.length;have hall:=qaw.join m1 m5 m6 m7 (g3.imp (R:=fun gh'=>qb3 w (C.free w own) gh' A c.1 v.2∧qa6 w (C.free w own) gh' B r'.1 css.flatten) fun gh' hg hq=>⟨m2.mono hg,hq⟩);refine⟨v.2.cells.toList::css,zs.take A.size::zss,?_,by grind [qaa],by rw[zaC,g2',hA];rfl,hall.imp fun gh' _ hq=>?_,?_,?_⟩
   ·grind [zay]
   ·rw[List.flatten_cons];exact⟨_,_,rfl,hq.1.1,hq.2⟩
   ·intro k hk;cases k with
    |zero=>grind
    |succ k=>
     grind
   ·intro k q' hk hq';cases k with
    |zero=>
     rw[Nat.add_zero,hv]at hq';injection hq' with hq';subst hq';rw[hA];rfl
    |succ k=>exact g7 k q' (by simpa using hk) (by grind)
  ·rename_i hq;rw[hq]at hf;obtain⟨r',h2,he⟩:=Q.ya he;have:=Q.yb he;subst this;obtain⟨css,zss,g1,g2,g2',g3,g6,g7⟩:=qjk h hqs B (i+1) hg0 hn hh (fun gh=>(hz1 gh).2) h2;refine⟨zs.take A.size::css,zs.take A.size::zss,?_,by grind [qaa],by rw[zaC,g2',hl1];rfl,g3.imp fun gh' _ hq=>?_,?_,?_⟩
   ·grind [zay]
   ·rw[List.flatten_cons];exact⟨_,_,rfl,(hz1 gh').1,hq⟩
   ·grind
   ·intro k q' hk hq';cases k with
    |zero=>grind
    |succ k=>exact g7 k q' (by simpa using hk) (by grind)
 |.unit,i,gh0,nb0,hg0,ps,hn,hh,zs,r,hz,he=>by
  have:=Q.yb he;subst this;have hz:zs=[]:=zaz (hz own.gh).length;subst hz;exact⟨[],[],rfl,rfl,rfl,qaw.yu hn hh rfl,fun k hk=>(by cases hk),fun k q hk=>(by cases hk)⟩
 |.int _,_,_,_,_,_,_,_,_,_,_,he=>by cases he
 |.bool,_,_,_,_,_,_,_,_,_,_,he=>by cases he
 |.str,_,_,_,_,_,_,_,_,_,_,he=>by cases he
 |.err,_,_,_,_,_,_,_,_,_,_,he=>by cases he
 |.opt _,_,_,_,_,_,_,_,_,_,_,he=>by cases he
 |.map _ _,_,_,_,_,_,_,_,_,_,_,he=>by cases he
 |.ptr _ _,_,_,_,_,_,_,_,_,_,_,he=>by cases he
 |.sl _ _,_,_,_,_,_,_,_,_,_,_,he=>by cases he
 |.slice _,_,_,_,_,_,_,_,_,_,_,he=>by cases he
 |.arr _ _,_,_,_,_,_,_,_,_,_,_,he=>by cases he
theorem qjt (h:qK C σ a.tmps w own) {e:Ty}:(n:Nat)→{gh0:Nat→Nat→Option Value}→{nb0:List Nat}→(hg0:qaJ own.gh gh0)→{ps:List qQ}→(hn:(ps.map (·.k)).Nodup)→(hh:qL w (C.free w own) gh0 ps nb0)→(qs:List (Nat×Op1))→(vs:List (Nat×Value))→qeq (sit C σ a.tmps w own) qs vs→{r:List e.den×List qQ×List U}→(qkL E ps e n (qs.map (·.2))).run (qj σ)=some r→
  vs.length=n∧r.1.length=n∧qaw E w (C.free w own) own gh0 nb0 r.2 (fun gh'=>∀(i:Nat) (x:e.den) (v:Nat×Value),r.1[i]? =some x→vs[i]? =some v→qb3 w (C.free w own) gh' e x v.2)
 |0,gh0,nb0,hg0,ps,hn,hh,[],[],_,r,he=>by
  have:=Q.yb he;grind [qaw.yu]
 |n+1,gh0,nb0,hg0,ps,hn,hh,q::qs,v::vs,hp,r,he=>by
  obtain⟨_,ho,hp⟩:=hp;obtain⟨c,h1,he⟩:=Q.ya he;obtain⟨r',h2,he⟩:=Q.ya he;obtain⟨_,gh1,nb1,m1,m2,m3,m4,m5,m6,m7⟩:=qhn h hg0 hn hh ho h1;obtain⟨g1,g2,g3⟩:=qjt h n (hg0.trans m1) m3 m4 qs vs hp h2;have:=Q.yb he;subst this;have hall:=qaw.join m1 m5 m6 m7 (g3.imp (R:=fun gh'=>qb3 w (C.free w own) gh' e c.1 v.2∧∀(i:Nat) (x:e.den) (v:Nat×Value),r'.1[i]? =some x→vs[i]? =some v→qb3 w (C.free w own) gh' e x v.2) fun gh' hg hq=>⟨m2.mono hg,hq⟩);refine⟨by simp[g1],by simp[g2],hall.imp fun gh' _ hq i x v hx hv=>?_⟩;grind
 |0,_,_,_,_,_,_,[],_::_,hp,_,_=>by cases hp
 |0,_,_,_,_,_,_,_::_,_,_,_,he=>by cases he
 |_+1,_,_,_,_,_,_,[],_,_,_,he=>by cases he
 |_+1,_,_,_,_,_,_,_::_,[],hp,_,_=>by cases hp
theorem qqp (h:qK C σ a.tmps w own) (hnp:qil C w own (a.tmps.getD E.hs undef)) {av:AV}{ps:List qQ}{us:List U}{K:(Nat→Nat→Option Value)→Prop}(hc:qaw E w (C.free w own) own own.gh (own E.hs) (ps,us) K) {f:Eff}(he:(qub E o av ps us).run (qj σ)=some (some f)) (hd:∀u∈f.upd,u.s<σ.length)
  {v:Value}{w':World}(hx:(execOp a.eval o).run C.P w=.ok (.value v) w') (hk:qaA (fun _=>False) w w') {nbE:List Nat}(hnE:nbE.Nodup) (hfr:∀b∈nbE,w.heap.size≤b∧b<w'.heap.size) (hav:av.mentions=[]∧av.isHeap=false)
  (hrep:∀X':Sit,X'.w=w'→(∀b,C.free w own b→X'.F b)→K X'.gh→qS X' av v nbE):qb5 C o a w (qh σ f.upd):=by
 unfold qub at he;split at he;case h_2=>cases he
 rename_i d hdst;split at he;case isFalse=>cases he
 rename_i hcond;obtain⟨⟨hdne,hdu⟩,hnd⟩:=hcond;have hdu:d∉us.map (·.s):=by simpa using hdu
 have:=Q.yb he;injection this with this;subst this;obtain⟨gh',nb,g1,g2,g3,g4,g5,g6,g7⟩:=hc.nodup h (qcs hnd);have hold:∀k,k<w.heap.size→w'.heap[k]? =w.heap[k]? :=fun k hl=>hk.block k hl (fun h=>h);have hF:∀b,C.free w own b→b<w.heap.size→C.free w own b∧b<w'.heap.size∧w'.heap[b]? =w.heap[b]? :=fun b hb hl=>⟨hb,zaq hl hk.size,hold b hl⟩;have hnlt:∀b∈nb,b<w.heap.size:=fun b hb=>by
  rcases g7 b hb with h1|⟨u,_,h1⟩<;>exact(h.mine _ b h1).2
 refine qt hx ?_;rw[qdG a hdst];refine h.heapT (hnp:=hnp) g5 [⟨d,true,av⟩] nbE (.inr ⟨d,_,rfl,hdne,hdu,hav,by simp,fun s hs=>qay _ _ hs⟩) g1 hd (hk.mono fun _ h=>h.elim) g3 (qL.keep hF (gh':=gh') rfl (fun b hb hl=>hold b hl) g4)
  (fun b hb=>(hF b hb hb.2.1).2) ⟨g6,hnE,fun b hb hm=>?_,fun b hb=>?_⟩ (fun u hu X' x1 x2 x3 x4 x5=>?_)
 ·grind
 ·grind
 ·rw[zah]at hu;subst hu;have hdl:d<σ.length:=hd ⟨d,true,av⟩ (by simp);show qS X' av ((a.tmps.setIfInBounds d v).getD d undef) nbE;rw[qbn _ _ (by rw[h.size];exact hdl)];grind
theorem qpN (hE:qad E C.P) (h:qK C σ a.tmps w own) (hp:qa5 (sit C σ a.tmps w own) p) {t:Nat}{parts:Array (Nat×Operand)}(hop:o.op=.build t parts) {f:Eff}
  (he:(qmN E p o t parts.toList).run (qj σ)=some (some f)) (hd:∀u∈f.upd,u.s<σ.length):qb5 C o a w (qh σ f.upd):=by
 unfold qmN at he;split at he;case h_2=>cases Q.yb he
 rename_i T hT;split at he
 ·cases Q.yb he
 obtain⟨qs,h1,he⟩:=Q.ya he;have hqs:=qej h hp parts.toList h1;generalize hvs:(parts.toList.map fun x=>(x.1,a.eval x.2))=vs at hqs;obtain⟨ps,hps,he⟩:=Q.ya he;obtain⟨hs,hn,hh,hnp⟩:=qb7 h hps;obtain⟨r,h2,he⟩:=Q.ya he;split at he;case isFalse=>cases he
 rename_i hcond;simp only[zad]at hcond;obtain⟨c2,c3⟩:=hcond;have hst:T.struct=true:=by
  cases T<;>first|rfl|cases h2
 have hag:T.agg=true:=by
  cases T<;>first|rfl|cases h2
 obtain⟨fs,z,i,s1,s2,s3,s4,s5⟩:=hE.heap.struct t T hT hst;obtain⟨css,zss,g1,g2,g2',g3,g6,g7⟩:=qjk h hqs T 0 (qaJ.refl _) hn hh (zs:=z.cells.toList) (fun gh=>s4 w _ gh) h2;have hvd:qf1 (vs.map (·.1))=true:=by rw[←hqs.map];exact c2
 have hlen:zss.length=css.length:=by
  grind
 have hbound:∀q∈vs,q.1<css.length:=by
  intro q hq;have:q.1∈qs.map (·.1):=by rw[hqs.map];grind
  grind
 obtain⟨rr,f1,f2⟩:=qm1 (place:=fun i=>(qea T 0).toArray[i]?) vs zss z.cells g1 (fun i c hi=>by
  have:=qkP T 0 g2 hi;grind) (fun q hq=>by
  grind [qnW])
 have hfin:vs.foldl (fun css q=>css.set q.1 q.2.cells.toList) zss=css:=by
  apply List.ext_getElem?;intro k;rw[qgI (css:=zss) vs hvd k];grind
 rw[hfin]at f2;have hrr:rr=css.flatten.toArray:=by rw[←f2]
 subst hrr;have hrun:(execOp a.eval o).run C.P w=.ok (.value (.agg css.flatten.toArray)) w:=by
  unfold execOp;rw[hop];have hm:(parts.map fun (i,x)=>(i,a.eval x)).toList=vs:=by simp_all
  have hpl:=qi7 w fs.toList T 0 s5;simp only[Sem.run_bind,Instr.build,zeroValue,typeInfo,s2,s3,Sem.run_pure,Result.andThen_ok,run_underlying s1,hm];rw[Array.mapM_eq_mapM_toList];have f1':Instr.fill (fun x=>(qea T 0)[x]?) z.cells vs=some css.flatten.toArray:=by simpa using f1
  simp[hpl,f1',s2,s3]
 have qfS:∀ {w2:World}{F:Nat→Prop}{gh:Nat→Nat→Option Value},qa6 w2 F gh T r.1 css.flatten→qb3 w2 F gh T r.1 (.agg css.flatten.toArray):=fun hq=>⟨by simpa[Value.cells]using hq,fun _=>⟨_,rfl⟩,fun h=>by grind⟩;split at he
 ·rename_i hemp;have:=Q.yb he;injection this with this;subst this;exact qt (v:= .agg css.flatten.toArray) hrun (h.dst0 hd ⟨rfl,qfS (g3.now hemp)⟩ (fun m hm=>by cases hm))
 ·refine qqp h hnp g3 he hd hrun (qaA.refl _ _) zaA (fun b hb=>by cases hb) ⟨rfl,rfl⟩ fun X' x4 x5 hq=>⟨rfl,qfS ?_⟩;rw[x4];exact hq.keep (fun b hb hl=>⟨x5 b hb,hl,rfl⟩) (qaJ.refl _)
theorem qt3 (hE:qad E C.P) (h:qK C σ a.tmps w own) (hp:qa5 (sit C σ a.tmps w own) p) {t n:Nat}{parts:Array (Nat×Operand)}(hop:o.op=.buildSlice t n parts) {f:Eff}
  (he:(qvC E p o t n parts.toList).run (qj σ)=some (some f)) (hd:∀u∈f.upd,u.s<σ.length):qb5 C o a w (qh σ f.upd):=by
 unfold qvC at he;split at he;case h_2=>cases Q.yb he
 rename_i k sz hT;obtain⟨qs,h1,he2⟩:=Q.ya he;clear he;have hqs:=qej h hp parts.toList h1;generalize hvs:(parts.toList.map fun x=>(x.1,a.eval x.2))=vs at hqs;obtain⟨ps,hps,he⟩:=Q.ya he2;clear he2;obtain⟨hs,hn,hh,hnp⟩:=qb7 h hps;split at he;case h_2=>cases he
 rename_i q hq;split at he
 ·cases Q.yb he
 split at he
 ·rename_i h0;obtain⟨hn0,hp0,het⟩:=h0;have:=Q.yb he;injection this with this;subst this;have hp1:parts= #[]:=by
   grind
  rw[hn0,hp1]at hop;obtain⟨i,z,k1,k2,k3,k4,k5⟩:=hE.heap.elem t _ _ hT;have ku:=(hE.heap.sl t _ _ hT).1;refine h.newOwn (n:=0) (cap:=0) (cur:= #[]) rfl (zax _) (by simp) (by simp) (fun i x hi=>by cases hi) ?_ hd;rw[het];unfold execOp;rw[hop];simp[Sem.run_bind,Instr.buildSlice,run_underlying ku,qgj k1,Instr.fill,newRow];grind
 split at he;case isFalse=>cases he
 rename_i hcond;obtain⟨hcond,ht1,ht2⟩:=hcond;subst ht2;simp only[zad]at hcond;obtain⟨⟨c1,c2⟩,c3⟩:=hcond;have c2:n*q.e.size≤16777216:=of_decide_eq_true c2;have c3:0<n*q.e.size:=of_decide_eq_true c3;obtain⟨r,h2,he⟩:=Q.ya he;obtain⟨g1,g2,g3⟩:=qjt h n (qaJ.refl _) hn hh qs vs hqs h2;obtain⟨i,z,k1,k2,k3,k4,k5⟩:=hE.heap.elem t _ _ hT;have ku:=(hE.heap.sl t _ _ hT).1;have hpos:0<q.e.size:=Nat.pos_of_mul_pos_left c3;have hall:∃gh',∀(i:Nat) (x:q.e.den) (v:Nat×Value),r.1[i]? =some x→vs[i]? =some v→qb3 w (C.free w own) gh' q.e x v.2:=by
  obtain⟨gh',_,_,k,_⟩:=g3;exact⟨gh',k⟩
 have hlenv:∀v∈vs.map (·.2),v.cells.size=q.e.size:=by
  intro v hv;obtain⟨gh',hall⟩:=hall;obtain⟨x,hx,rfl⟩:=List.mem_map.1 hv;obtain⟨j,hj,rfl⟩:=List.getElem_of_mem hx;have:=(hall j _ _ (zac (by omega)) (zac hj)).1.length;omega
 have hfill:=Great.fill_whole hpos (vs.map (·.2)) ((Array.range (n*i.size)).map (z.cells[· % z.cells.size]!)) hlenv (by simp[g1,k2]);rw[←qhb 0 hqs c1]at hfill;have hrun:=run_buildSlice (P:=C.P) w t (E.etid t) n vs.toArray _ i z ku k1 k3 (by rw[k2];omega) (by rw[k2];omega) (by rw[k2]at hfill⊢;exact hfill);have hx:(execOp a.eval o).run C.P w=.ok (.value (.slice (some ⟨w.heap.size,0,none⟩) n n)) (w.alloc (.cells ((vs.map (·.2)).flatMap fun v=>v.cells.toList).toArray (E.etid t))):=by
  unfold execOp;rw[hop];have hm:(parts.map fun (i,x)=>(i,a.eval x))=vs.toArray:=by grind
  simp_all
 have hl:∀c∈((vs.map (·.2)).map fun v=>v.cells.toList),c.length=q.e.size:=by
  grind
 have e1:((vs.map (·.2)).flatMap fun v=>v.cells.toList)=((vs.map (·.2)).map fun v=>v.cells.toList).flatten:=by grind
 have hnm:n≤maxLen:=by
  have:n*1≤n*q.e.size:=Nat.mul_le_mul_left _ hpos;grind [maxLen]
 have hsz:(((vs.map (·.2)).flatMap fun v=>v.cells.toList)).length=n*q.e.size:=by
  rw[e1,qdj hl];simp[g1]
 have hnew:=heap_alloc_new w (.cells ((vs.map (·.2)).flatMap fun v=>v.cells.toList).toArray (E.etid t));have key:∀X':Sit,X'.w=w.alloc (.cells ((vs.map (·.2)).flatMap fun v=>v.cells.toList).toArray (E.etid t))→(∀b,C.free w own b→X'.F b)→(∀(i:Nat) (x:q.e.den) (v:Nat×Value),r.1[i]? =some x→vs[i]? =some v→qb3 w (C.free w own) X'.gh q.e x v.2)→
   qI X'.w X'.F X'.gh q.et q.e r.1 (.slice (some ⟨w.heap.size,0,none⟩) n n) [w.heap.size]:=fun X' x4 x5 hq'=>by
  refine⟨(vs.map (·.2)).flatMap fun v=>v.cells.toList,⟨by rw[hsz,g2],.inr ⟨w.heap.size,n,_,by rw[g2],zaD _,by rw[x4,ht1];exact hnew,by omega,hnm,by simpa using hsz,?_⟩⟩,rfl,fun j x hj=>?_⟩
  ·grind
  ·have hjl:j<vs.length:=by grind
   have:=hq' j x vs[j] hj (zac hjl);rw[e1,(qaW hl (i:=j) (c:=vs[j].2.cells.toList) (by simp[hjl])).1];refine this.1.keep (fun b hb hlt=>⟨x5 b hb,?_⟩) (qaJ.refl _);grind [qef]
 split at he
 ·rename_i h0;have h0:r.2.2=[]:=List.isEmpty_iff.1 h0;have:=Q.yb he;injection this with this;subst this;obtain⟨gh',_,_,kq,_,_,_,_,kg⟩:=g3;have kg:=kg h0;subst kg;refine qt hx (h.dst (bs:=[w.heap.size]) (qaA.alloc _ _ _) hd (fun b hb=>?_) (by simp) ?_ (fun m hm=>by cases hm))
  ·grind
  ·exact key _ rfl (fun b hb=>⟨.inl hb,by have:=hb.2.1;simp;omega,by have:=hb.2.1;simp;omega⟩) kq
 refine qqp h hnp g3 he hd hx (qaA.alloc _ _ _) (nbE:=[w.heap.size]) (by simp) (fun b hb=>?_) ⟨rfl,rfl⟩ fun X' x4 x5 hq'=>key X' x4 x5 hq';grind
theorem qlM {P:Program}{w:World}{t u:TypeId}{sz:Nat}(hu:P.underlying t=some (.pointer u)) (hs:(sizeOf u).run P=fun w=>.ok sz w) (hz:sz≠0) (g x y:Nat):(Op.equal t (ptr g x) (ptr g y)).run P w=.ok (decide (x=y)) w:=by
 have key:∀d,(Op.equalIn (d+1) t (ptr g x) (ptr g y)).run P w=.ok (decide (x=y)) w:=fun d=>by
  by_cases hxy:x=y<;>simp[Op.equalIn,run_underlying hu,ptr,hs,hz,sameAddr,hxy]
 exact key 9999
theorem qlO {P:Program}{w:World}{t u:TypeId}(hu:P.underlying t=some (.pointer u)) (q:Option Addr):(Op.equal t (.pointer none) (.pointer q)).run P w=.ok q.isNone w:=by
 have key:∀d,(Op.equalIn (d+1) t (.pointer none) (.pointer q)).run P w=.ok q.isNone w:=fun d=>by
  cases q<;>simp[Op.equalIn,run_underlying hu]
 exact key 9999
theorem qnb {X:Sit}{x1:Op1}{v:Value}(ho:qaC X x1 v) {k sz:Nat}{y:Int×Int}(hq:qsg x1=some (k,sz,y)):qkN X.gh k sz y v:=by
 unfold qsg at hq;split at hq
 ·rename_i k' sz' y' ha;injection hq with hq;injection hq with e1 hq;injection hq with e2 e3;subst e1;subst e2;subst e3;have hr:=ho.unowned (by rw[ha];rfl);rw[ha]at hr;obtain⟨_,⟨v',e1,e2⟩,_,e3⟩:=hr;rw[qaN (e3 rfl)]at e1;grind
 ·cases hq
theorem qkN.form {gh:Nat→Nat→Option Value}{k sz:Nat}{y:Int×Int}{v:Value}(h:qkN gh k sz y v):∃q,v=.pointer q∧q.isNone=eqI y.1 (-1):=by
 rw[qcc];rcases h with⟨h0,_,rfl⟩|⟨h0,_,g,n,c,_,_,rfl⟩
 ·grind
 ·exact⟨_,rfl,by simp;omega⟩
theorem qtu (hE:qad E C.P) (h:qK C σ a.tmps w own) (hp:qa5 (sit C σ a.tmps w own) p) {op:BinOp}{t:Nat}{x y:Operand}{b:TypeId}(hop:o.op=.binOp op t x y b) {f:Eff}
  (he:(qvi E p o op t x y).run (qj σ)=some (some f)) (hd:∀u∈f.upd,u.s<σ.length) (hc:qb9 f.chk):qb5 C o a w (qh σ f.upd):=by
 unfold qvi at he;split at he;case h_3=>cases Q.yb he
 case h_2=>
  rename_i k sz hT;split at he;case isFalse=>cases Q.yb he
  rename_i hn;obtain⟨x1,h1,he⟩:=Q.ya he;split at he;case h_2=>cases Q.yb he
  rename_i r hr;obtain⟨k',sz',s⟩:=r;have:=Q.yb he;injection this with this;subst this;have hck:=hc _ (zah.2 rfl);rw[qcc,qbz,qbz]at hck;simp only[Bool.or_eq_true,beq_iff_eq,decide_eq_true_eq]at hck;have hu:=(hE.heap.sl t _ _ hT).1;obtain⟨hyo,hopc⟩:y=.const (.slice none 0 0)∧(op=.eql∨op=.neq):=by
   grind [qon]
  have hya:a.eval y=.slice none 0 0:=by rw[hyo];rfl
  obtain⟨ad,l,c,hv,hl⟩:∃ad l c,a.eval x=.slice ad l c∧ad.isNone=eqI s.1 (-1):=by
   rcases qf6 (qF h hp h1) hr with⟨g1,_,_,g4⟩|⟨g0,g1,g2,ad,n,cap,g3,⟨_,_,g6⟩,g7,g8⟩
   ·grind [qcc]
   ·rcases g8 with g8|⟨_,g9,A,c',g8⟩
    ·obtain⟨g,rfl⟩:=g6.resolve_left (by omega);refine⟨_,_,_,g8,?_⟩;grind [qcc]
    grind [qcc]
  have hg:(eqGuard op t x y (a.eval x) (a.eval y)).run C.P w=.ok () w:=by
   rw[hv,hya];rcases hopc with rfl|rfl<;>simp[eqGuard]
  refine qt (v:= .bool (bif qel op then eqI s.1 (-1)else !(eqI s.1 (-1)))) (w':=w) ?_ (h.dst0 hd ⟨rfl,q9.ofBool _ _ _⟩ (fun m hm=>by cases hm));simp_all [qis,execOp]
 rename_i k sz hT;obtain⟨u,hu,hus⟩:=hE.heap.ptr t k sz hT;have fin:∀(r:Bool),(op=.eql∨op=.neq)→(∃q q',a.eval x=.pointer q∧a.eval y=.pointer q')→(Op.equal t (a.eval x) (a.eval y)).run C.P w=.ok r w→(∀u∈(qaL o (.val .bool (bif qel op then r else !r))),u.s<σ.length)→qb5 C o a w (qh σ (qaL o (.val .bool (bif qel op then r else !r)))):=by
  intro r hopc hq hr hd;obtain⟨q,q',e1,e2⟩:=hq;have hg:(eqGuard op t x y (a.eval x) (a.eval y)).run C.P w=.ok () w:=by
   rw[e1,e2];rcases hopc with rfl|rfl<;>simp[eqGuard]
  rw[e1,e2]at hr;refine qt (v:= .bool (bif qel op then r else !r)) ?_ (h.dst0 hd ⟨rfl,q9.ofBool _ _ _⟩ (fun m hm=>by cases hm));unfold execOp;rw[hop];simp only[Sem.run_bind,hg,Result.andThen_ok];rw[e1,e2];rcases hopc with rfl|rfl<;>simp[binOp,hr,qel]
 split at he
 ·rename_i hn;obtain⟨x1,h1,he⟩:=Q.ya he;split at he;case h_2=>cases he
  rename_i r hr;have:=Q.yb he;injection this with this;subst this;obtain⟨hyo,hopc⟩:y=.const (.pointer none)∧(op=.eql∨op=.neq):=by
   grind [qky]
  have hya:a.eval y=.pointer none:=by rw[hyo];rfl
  obtain⟨q,e1,e2⟩:=(qnb (qF h hp h1) hr).form;exact fin _ hopc ⟨q,none,e1,hya⟩ (by grind [qf5]) hd
 ·split at he;case isFalse=>cases he
  rename_i hcp;obtain⟨x1,h1,he⟩:=Q.ya he;obtain⟨y1,h2,he⟩:=Q.ya he;have hopc:op=.eql∨op=.neq:=by
   grind [quI]
  split at he;case h_2=>cases he
  rename_i r s hr hs;split at he;case isFalse=>cases he
  rename_i hcond;obtain⟨c1,c2,c3,c4,c5⟩:=hcond;have:=Q.yb he;injection this with this;subst this;obtain⟨rk,rsz,ry⟩:=r;obtain⟨sk,ssz,sy⟩:=s;simp only at c1 c2 c3 c4 hc hd⊢
  subst c1;subst c2;subst c3;subst c4;have px:=qnb (qF h hp h1) hr;have py:=qnb (qF h hp h2) hs;have hch:=hc _ (zah.2 rfl);obtain⟨q,e1,e2⟩:=px.form;obtain⟨q',e3,e4⟩:=py.form;refine fin _ hopc ⟨q,q',e1,e3⟩ ?_ hd;rw[qcc,qcc,qcc,Bool.or_eq_true,Bool.or_eq_true]at hch;rw[qcc,qcc];rcases px with⟨x0,x1',hx⟩|⟨x0,x1',g,n,c,x2,x3,hx⟩
  ·rw[hx,e3,qlO hu,e4,qcc];rcases py with⟨y0,y1',hy⟩|⟨y0,y1',_⟩
   ·grind
   ·congr 1;grind
  ·rcases py with⟨y0,y1',hy⟩|⟨y0,y1',g',n',c',y2,y3,hy⟩
   ·grind [qf5,qcc]
   ·have hid:ry.1=sy.1:=by
     grind
    rw[hid,y2]at x2;injection x2 with x2;injection x2 with x2;injection x2 with x2;injection x2 with x2;subst x2;rw[hx,hy,qlM hu hus (by omega),hid];congr 1;grind [Nat.eq_of_mul_eq_mul_right]
end
end Go.Vi
namespace Go.Vi
open Go.RowKit
section
variable {C:Ctx}{E:Env}{σ:St}{tm:Array Value}{a:Act}{w w':World}{own:Own}{o:Oper}{p:qdU} [Tabbed E C]
theorem qba.plain {F:Nat→Prop}{gh:Nat→Nat→Option Value}:(ts:List Ty)→{x:denL ts}→{vs:List Value}→qmp ts=true→qba w F gh ts x vs→qct w F ts x vs
 |[],_,_,_,h=>h
 |t::ts,_,_,hp,⟨v,r,h1,h2,h3⟩=>by
  simp only[qmp,zad]at hp;exact⟨v,r,h1,h2.plain hp.1,qba.plain ts hp.2 h3⟩
theorem qct.toH {F:Nat→Prop}{gh:Nat→Nat→Option Value}:(ts:List Ty)→{x:denL ts}→{vs:List Value}→qct w F ts x vs→qba w F gh ts x vs
 |[],_,_,h=>h
 |t::ts,_,_,⟨v,r,h1,h2,h3⟩=>⟨v,r,h1,h2.toH,qct.toH ts h3⟩
theorem qkF (hFn:qdr E C.P) (hH:qfN E C.P) {X:Sit}(hP:X.P=C.P) (hT:qcN E.tabs X.w X.F) {ks:List (Nat×Nat×Ty)}{ts us:List Ty}{av:AV}{v:Value}{φ:hden ks→denL ts→Option (hden ks×denL us)}(h:qrG E ks ts us av=some φ) (hr:qS X av v []):qdT C.P X.w X.F X.gh ks ts us φ v:=by
 unfold qrG at h;split at h
 ·split at h
  ·rename_i hc;obtain⟨rfl,rfl,rfl⟩:=hc;injection h with h;subst h;exact hP▸hr.2
  ·cases h
 ·rename_i f cs y;split at h;case h_2=>cases h
  rename_i ks' ps' rs' sem hC;have hok:=hH f _ hC;split at h;case isFalse=>cases h
  rename_i hc;obtain⟨rfl,rfl,rfl⟩:=hc;injection h with h;subst h;obtain⟨_,vs,hv,hvs⟩:=hr;refine⟨f,vs.toArray,hv,fun w2 F2 gh2 p bs x p' y' as hk hg hn hh hb hbn hx hy=>.inl ⟨hok.1 _ _,?_⟩⟩;have:=hok.2 w2 F2 gh2 p bs (qnK _ _ (appD ts cs x y)) p' y' (as++vs) (hT.keep hk) hn hh hb hbn (qml _ (qqj ts cs hx (hvs.keep hk hg))) hy;grind
 ·split at h;case isFalse=>cases h
  rename_i hpl;simp only[zad]at hpl;obtain⟨ψ,hψ,rfl⟩:=zao.1 h;obtain⟨f,caps,hv,hc,hf⟩:=qnq hFn (w:=X.w) (F:=X.F) (X:=X) ⟨hP,rfl,rfl⟩ hT hψ hr;refine⟨f,caps,hv,fun w2 F2 gh2 p bs x p' y' as hk hg hn hh hb hbn hx hy=>.inl ⟨hc _ _,?_⟩⟩;simp only[qeE,zao]at hy;obtain⟨z,hz,hy⟩:=hy;injection hy with hy1 hy2;subst hy1;subst hy2;refine Calls.mono (hf w2 F2 x z as hk (hx.plain ts hpl.1) hz) ?_;rintro e w3 ⟨vs,rfl,hvs,hkp⟩;have hF:∀b,F2 b→b<w2.heap.size→qmA w2 F2 bs bs b∧b<w3.heap.size∧w3.heap[b]? =w2.heap[b]? :=fun b hb' hl=>⟨⟨.inl hb',fun hm=>(hb b hm).1 hb'⟩,zaq hl hkp.size,hkp.block b hl fun h=>h⟩;refine⟨vs,gh2,bs,rfl,qaJ.refl _,hbn,fun b hm=>⟨.inl hm,zaq (hb b hm).2 hkp.size⟩,qL.keep hF rfl (fun b _ hl=>hkp.block b hl fun h=>h) hh,(qct.toH us hvs).keep (fun b hb' hl=>?_) (qaJ.refl _),hkp.mono fun _ h=>h.elim⟩;refine⟨?_,hl,rfl⟩;rcases hb' with hb'|hb'
  ·exact⟨.inl hb',fun hm=>(hb b hm).1 hb'⟩
  ·exact⟨.inr (.inr hb'),fun hm=>by grind⟩
theorem qry (a:AV):qns E a=a∨∃f,a=.fn f []∧qns E a=.hclo f [] ():=by
 unfold qns;grind
theorem qg7 (hFn:qdr E C.P) (hH:qfN E C.P) (h:qK C σ a.tmps w own) {ks:List (Nat×Nat×Ty)}:(ms:List HM)→{gh0:Nat→Nat→Option Value}→{nb0:List Nat}→(hg0:qaJ own.gh gh0)→{ps:List qQ}→(hn:(ps.map (·.k)).Nodup)→(hh:qL w (C.free w own) gh0 ps nb0)→{os:List Op1}→{vs:List Value}→{A:HMs.den ks ms×List qQ×List U}→qij (sit C σ a.tmps w own) os vs→
  (qgv E ks ps ms os).run (qj σ)=some A→qaw E w (C.free w own) own gh0 nb0 A.2 fun gh'=>qbH C.P w (C.free w own) gh' ks ms A.1 vs
 |[],gh0,nb0,hg0,ps,hn,hh,[],[],A,_,he=>by
  have:=Q.yb he;subst this;exact qaw.yu hn hh rfl
 |.v t::ms,gh0,nb0,hg0,ps,hn,hh,o1::os,v::vs,A,⟨ho,hos⟩,he=>by
  obtain⟨c,h1,he⟩:=Q.ya he;obtain⟨r,h2,he⟩:=Q.ya he;obtain⟨_,gh1,nb1,m1,m2,m3,m4,m5,m6,m7⟩:=qhn h hg0 hn hh ho h1;have hr:=qg7 hFn hH h ms (hg0.trans m1) m3 m4 hos h2;have:=Q.yb he;subst this;exact qaw.join m1 m5 m6 m7 (hr.imp fun gh' hg hq=>⟨v,vs,rfl,m2.mono hg,hq⟩)
 |.fn ts us::ms,gh0,nb0,hg0,ps,hn,hh,o1::os,v::vs,A,⟨ho,hos⟩,he=>by
  unfold qgv at he;split at he;case h_2=>cases he
  rename_i φ hφ;obtain⟨r,h2,he⟩:=Q.ya he;have:=Q.yb he;subst this;have hun:o1.a.unowned=true:=by
   unfold quH at hφ;split at hφ
   ·rename_i hq;rw[hq];rfl
   ·rename_i hq;rw[hq];rfl
   ·cases hφ
  have hfr:=qnq hFn (w:=w) (F:=C.free w own) (X:=sit C σ a.tmps w own) ⟨rfl,rfl,rfl⟩ h.tabsE hφ (ho.unowned hun);exact(qg7 hFn hH h ms hg0 hn hh hos h2).imp fun gh' _ hq=>⟨v,vs,rfl,hfr,hq⟩
 |.hfn ts us::ms,gh0,nb0,hg0,ps,hn,hh,o1::os,v::vs,A,⟨ho,hos⟩,he=>by
  unfold qgv at he;split at he;case h_2=>cases he
  rename_i φ hφ;obtain⟨r,h2,he⟩:=Q.ya he;have:=Q.yb he;subst this;have hfr:qdT C.P w (C.free w own) own.gh ks ts us φ v:=by
   rcases qry (E:=E) o1.a with hq|⟨f,hq,hq2⟩
   ·rw[hq]at hφ;have hun:o1.a.unowned=true:=by
     unfold qrG at hφ;split at hφ
     ·rename_i hq;rw[hq];rfl
     ·rename_i hq;rw[hq];rfl
     ·split at hφ;case isFalse=>cases hφ
      obtain⟨ψ,hψ,_⟩:=zao.1 hφ;unfold quH at hψ;split at hψ
      ·rename_i hq;rw[hq];rfl
      ·rename_i hq;rw[hq];rfl
      ·cases hψ
    exact qkF (C:=C) hFn hH (X:=sit C σ a.tmps w own) rfl h.tabsE hφ (ho.unowned hun)
   ·rw[hq2]at hφ;refine qkF (C:=C) hFn hH (X:=sit C σ a.tmps w own) rfl h.tabsE hφ ?_;have:=ho.unowned (by rw[hq];rfl);rw[hq]at this;obtain⟨_,vs,hv,hvs⟩:=this;have hvs:vs=[]:=hvs.1;subst hvs;exact⟨rfl,[],hv,rfl⟩
  exact(qg7 hFn hH h ms hg0 hn hh hos h2).imp fun gh' hg hq=>⟨v,vs,rfl,hfr.keep (fun b hb hl=>⟨hb,hl,rfl⟩) (hg0.trans hg),hq⟩
 |.ls::ms,gh0,nb0,hg0,ps,hn,hh,o1::os,v::vs,A,⟨ho,hos⟩,he=>by
  unfold qgv at he;split at he;case h_2=>cases he
  rename_i ks' φ ψ hq;split at he;case isFalse=>cases he
  rename_i hk;subst hk;obtain⟨r,h2,he⟩:=Q.ya he;have:=Q.yb he;subst this;have hu:=ho.unowned (by rw[hq];rfl);rw[hq]at hu;obtain⟨_,v1,v2,g1,g2,g3⟩:=hu;exact(qg7 hFn hH h ms hg0 hn hh hos h2).imp fun gh' hg hq=>⟨v,vs,rfl,⟨v1,v2,g1.keep (fun b hb hl=>⟨hb,hl,rfl⟩) (hg0.trans hg),g2.keep (fun b hb hl=>⟨hb,hl,rfl⟩) (hg0.trans hg),g3⟩,hq⟩
 |.ifc t k sz::ms,gh0,nb0,hg0,ps,hn,hh,o1::os,v::vs,A,⟨ho,hos⟩,he=>by
  unfold qgv at he;split at he;case h_2=>cases he
  rename_i t' k' sz' s hq;split at he;case isFalse=>cases he
  rename_i hk;obtain⟨rfl,rfl,rfl⟩:=hk;obtain⟨r,h2,he⟩:=Q.ya he;have:=Q.yb he;subst this;have hu:=ho.unowned (by rw[hq];rfl);rw[hq]at hu;obtain⟨_,v',g1,g2⟩:=hu;exact(qg7 hFn hH h ms hg0 hn hh hos h2).imp fun gh' hg hq=>⟨v,vs,rfl,⟨v',g1,qe2.mono (hg0.trans hg) g2⟩,hq⟩
 |[],_,_,_,_,_,_,_::_,_,_,_,he=>by cases he
 |.ls::_,_,_,_,_,_,_,[],_,_,_,he=>by cases he
 |.ifc _ _ _::_,_,_,_,_,_,_,[],_,_,_,he=>by cases he
 |.ls::_,_,_,_,_,_,_,_::_,[],_,h,_=>by cases h
 |.ifc _ _ _::_,_,_,_,_,_,_,_::_,[],_,h,_=>by cases h
 |.v _::_,_,_,_,_,_,_,[],_,_,_,he=>by cases he
 |.fn _ _::_,_,_,_,_,_,_,[],_,_,_,he=>by cases he
 |.hfn _ _::_,_,_,_,_,_,_,[],_,_,_,he=>by cases he
 |[],_,_,_,_,_,_,[],_::_,_,h,_=>by cases h
 |.v _::_,_,_,_,_,_,_,_::_,[],_,h,_=>by cases h
 |.fn _ _::_,_,_,_,_,_,_,_::_,[],_,h,_=>by cases h
 |.hfn _ _::_,_,_,_,_,_,_,_::_,[],_,h,_=>by cases h
theorem qmq {X:Sit}:(rs:List Ty)→{y:denL rs}→{vs:List Value}→qba X.w X.F X.gh rs y vs→qS X (qmC rs y) (qcG vs) []∧(qmC rs y).mentions=[]∧(qmC rs y).isHeap=false
 |[],y,vs,h=>by
  have h':vs=[]:=h;subst h';exact⟨⟨rfl,[],rfl,rfl⟩,rfl,rfl⟩
 |[t],y,vs,⟨v,r,h1,h2,h3⟩=>by
  have h3:r=[]:=h3;subst h3;subst h1;obtain⟨k1,k2⟩:=qfg (X:=X) h2;refine⟨k1,k2,?_⟩;show(qjy t y.1).isHeap=false;unfold qjy;split<;>rfl
 |t::u::rs,y,vs,h=>by
  refine⟨⟨rfl,vs,?_,h⟩,rfl,rfl⟩;obtain⟨v,r,h1,h2,v',r',h3,h4⟩:=h;subst h1;subst h3;rfl
theorem qqD (hFn:qdr E C.P) (hH:qfN E C.P) (h:qK C σ a.tmps w own) {ks:List (Nat×Nat×Ty)}{ms:List HM}{rs:List Ty}{sem:hden ks→HMs.den ks ms→Option (hden ks×denL rs)}{os:List Op1}{vs:List Value}(ho:qij (sit C σ a.tmps w own) os vs) {fn:Nat}{as:Array Value}
  (hcall:∀(gh:Nat→Nat→Option Value) (q:hden ks) (bs:List Nat) (x:HMs.den ks ms) (q':hden ks) (y:denL rs),qaJ own.gh gh→(ks.map (·.1)).Nodup→qL w (C.free w own) gh (qR ks q) bs→(∀b∈bs,¬C.free w own b∧b<w.heap.size)→bs.Nodup→qbH C.P w (C.free w own) gh ks ms x vs→sem q x=some (q',y)→Runs C.P fn as w (qmY w (C.free w own) gh ks bs rs q' y))
  {f:Eff}(he:(qrh E o ks ms rs sem os).run (qj σ)=some (some f)) (hd:∀u∈f.upd,u.s<σ.length) (hc:qb9 f.chk) (hr:(execOp a.eval o).run C.P w=(callFunc fn as).run C.P w):qb5 C o a w (qh σ f.upd):=by
 unfold qrh at he;obtain⟨ps,hps,he⟩:=Q.ya he;obtain⟨hs,hn,hh,hnp⟩:=qb7 h hps;obtain⟨A,hA,he⟩:=Q.ya he;have qgv:=qg7 hFn hH h ms (qaJ.refl _) hn hh ho hA;split at he;case isFalse=>cases he
 rename_i hnd;obtain⟨gh1,nb1,g1,g2,g3,g4,g5,g6,g7⟩:=qgv.nodup h (qcs hnd);have hb1:∀b∈nb1,¬C.free w own b∧b<w.heap.size:=fun b hb=>by
  rcases g7 b hb with h1|⟨u,_,h1⟩<;>exact⟨fun hf=>hf.2.2 _ h1,(h.mine _ b h1).2⟩
 split at he;case h_2=>cases he
 rename_i q hq;have hq:=qhm ks hq;rw[←hq]at g3 g4;rw[qck]at g3;have main:∀ {q':hden ks}{y:denL rs}{ext:List U},sem q A.1=some (q',y)→(ext=[]∧o.dst=none∨∃d,ext=[⟨d,true,qmC rs y⟩]∧o.dst=some d∧d≠E.hs∧d∉A.2.2.map (·.s))→(∀u∈A.2.2++(⟨E.hs,true,.heap (qR ks q')⟩::ext),u.s<σ.length)→qb5 C o a w (qh σ (A.2.2++(⟨E.hs,true,.heap (qR ks q')⟩::ext))):=by
  intro q' y ext hy hext hd;intro K Q hK;have fin:∀ {e:Ending}{w':World},qmY w (C.free w own) gh1 ks nb1 rs q' y e w'→∃rv,e=.returned (qcG rv)∧∃own',qK C (qh σ (A.2.2++(⟨E.hs,true,.heap (qR ks q')⟩::ext))) (a.put o.dst (qcG rv)).tmps w' own':=by
   rintro e w' ⟨rv,gh',bs',rfl,k1,k2,k3,k4,k5,k6⟩;refine⟨rv,rfl,?_⟩;refine h.heapT2 (F2:=qmA w (C.free w own) nb1 bs') (tm':=(a.put o.dst (qcG rv)).tmps) g5 ext [] ?_ (g1.trans k1) hd (k6.mono fun b hb=>?_) (by rw[qck];exact g3) k4 (fun b hb hl=>?_) (fun b hb=>⟨zaq hb.2.1 k6.size,k6.block b hb.2.1 fun hm=>(hb1 b hm).1 hb⟩) ⟨k2,zaA,fun b _ hm=>(by cases hm),fun b hb=>?_⟩ hnp (fun u hu X' x1 x2 x3 x4 x5 x6=>?_)
   ·rcases hext with⟨e1,e2⟩|⟨d,e1,e2,e3,e4⟩
    ·exact .inl ⟨e1,by rw[e2];rfl⟩
    ·rw[e2];refine .inr ⟨d,_,e1,e3,e4,?_,by simp[Act.put],fun s hs=>qay _ _ hs⟩;have:=qmq (X:= { P:=C.P,ver:=fun _=>0,tm:=fun _=>undef,w:=w',F:=qmA w (C.free w own) nb1 bs',own:=fun _=>[],gh:=gh',pn:=C.pn }) rs k5;exact this.2
   ·grind
   ·rcases hb.1 with h1|h1|h1
    ·exact .inl h1
    ·refine .inr ⟨?_,hb.2,by simp⟩;grind
    ·exact .inr ⟨.inl h1,hb.2,by simp⟩
   ·grind
   ·rcases hext with⟨e1,e2⟩|⟨d,e1,e2,e3,e4⟩
    ·grind
    ·rw[e1,zah]at hu;subst hu;have hdl:d<σ.length:=hd ⟨d,true,qmC rs y⟩ (by rw[e1];simp);rw[e2];show qS X' _ ((a.tmps.setIfInBounds d (qcG rv)).getD d undef) [];rw[qbn _ _ (by rw[h.size];exact hdl)];exact(qmq rs (k5.keep (fun b hb hl=>by grind) (by rw[x3];exact qaJ.refl _))).1
  unfold Oper.wp;rw[hr];rcases hcall gh1 q nb1 A.1 q' y g1 g3 g4 hb1 g6 g2 hy with⟨hen,hC⟩|⟨v,w',hen,hQ⟩
  ·rw[hen];refine Calls.mono hC ?_;rintro e w' hq;obtain⟨rv,rfl,own',hst⟩:=fin hq;exact hK _ _ own' (qeg o a _) hst
  ·obtain⟨rv,hv,own',hst⟩:=fin hQ;injection hv with hv;subst hv;rw[hen];exact hK _ _ own' (qeg o a _) hst
 have hsem:∀ {c:List Bool},f.chk=c→[qp (sem q A.1)]=c→∃z,sem q A.1=some z:=fun e1 e2=>by
  have:=hc _ (by rw[e1,←e2];exact zah.2 rfl);grind [qaI,zaE]
 split at he
 ·rename_i d hdst;split at he;case isFalse=>cases he
  rename_i hcond;have:=Q.yb he;injection this with this;subst this;obtain⟨z,hz⟩:=hsem rfl rfl;simp only[hz,qbh,Option.getD_some]at hd⊢
  exact main hz (.inr ⟨d,rfl,hdst,hcond.1,by grind⟩) hd
 grind [Q.yb,qbh]
end
end Go.Vi
namespace Go.Vi
open Go.RowKit
section
variable {C:Ctx}{E:Env}{σ:St}{tm:Array Value}{a:Act}{w w':World}{own:Own}{o:Oper}{p:qdU} [Tabbed E C]
theorem qI.clr {P:Program}{F:Nat→Prop}{gh:Nat→Nat→Option Value}{t ty te:Nat}{z:Value}{et:Nat}{e:Ty}{xs:List e.den}{ad:Option Addr}{n cap:Nat}{bs:List Nat}{lo hi:Int}(ht:P.underlying t=some (.slice te)) (hv:∀w,(zeroValue te).run P w=.ok z w) (hz:z.cells.size=e.size) (hzr:∀w F,qa6 w F gh e e.dflt z.cells.toList) (hsz:e.size≠0)
  (qN:qI w F gh et e xs (.slice ad n cap) bs) (hF0:∀x,F x→x∉bs) (c1:0≤lo) (c2:lo≤hi) (c3:hi≤(n:Int)):
  ∃W,(Builtin.clear_ #[t] ty #[sliced ad lo.toNat hi.toNat cap e.size]).run P w=.ok (.tuple #[]) W∧qaA (fun k=>k∈bs) w W∧qI W F gh et e (xs.take lo.toNat++(zaT (hi.toNat-lo.toNat) e.dflt++xs.drop hi.toNat)) (.slice ad n cap) bs:=by
 obtain⟨cells,r1,r2,r3⟩:=qN;have hn:n=xs.length:=by
  rcases r1.2 with⟨h1,h2⟩|⟨g,cap,cur,h1,_⟩;all_goals grind
 obtain⟨W,q1,q2,cells',q3,q4⟩:=qsC (P:=P) (ty:=ty) (R:=fun W x c=>qa6 W F gh e x c) ht hv hz (fun w=>hzr w F) (fun u hu=>(hzr w F).oneCell u hu) hsz r1 r2 r3 (fun W x c hk h=>h.keep (fun b hb hl=>⟨hb,zaq hl hk.size,hk.block b hl (hF0 b hb)⟩) (qaJ.refl _)) c1 c2 c3;refine⟨W,q1,q2,cells',?_,r2,q4⟩;grind
theorem qrg (hE:qad E C.P) (h:qK C σ a.tmps w own) {t:Nat}{x1:Op1}{v:Value}(ho:qaC (sit C σ a.tmps w own) x1 v) {f:Eff}(he:(qpv E o t x1).run (qj σ)=some (some f)) (hd:∀u∈f.upd,u.s<σ.length) (hc:qb9 f.chk)
  (hx:∃ty,(execOp a.eval o).run C.P w=((Builtin.clear_ #[t] ty #[v]).run C.P w).andThen fun v w=>.ok (.value v) w):qb5 C o a w (qh σ f.upd):=by
 obtain⟨ty,hx⟩:=hx;unfold qpv at he;split at he;case h_2=>cases Q.yb he
 rename_i k sz s hq;obtain⟨ps,hps,he3⟩:=Q.ya he;clear he;have he:=he3;clear he3;obtain⟨hs,hn,hh,hnp⟩:=qb7 h hps;split at he;case h_2=>cases he
 rename_i k' sz' q hT hq';split at he;case isFalse=>cases he
 rename_i hcond;obtain⟨⟨rfl,rfl,hqs⟩,het,hte,hpos,hdst⟩:=hcond;have he2:=Q.yb he;clear he;injection he2 with he2;subst he2;have hsome:=qgU (d:=q.rows) (hc _ (zah.2 rfl));generalize qy (qrC q.rows s q.e.dflt) q.rows=R at hsome hd⊢
 rw[qmR]at hsome;have ku:=(hE.heap.sl t _ _ hT).1;obtain⟨i,z,k1,k2,k3⟩:=hE.heap.zero _ _ hte;have hzv:∀w,(zeroValue (E.etid t)).run C.P w=.ok z w:=fun w=>by simp[zeroValue,typeInfo,k1,k2]
 have hzs:z.cells.size=q.e.size:=by
  have:=(k3 w (fun _=>True) own.gh).length;omega
 have hdn:o.dst=none:=by simp_all
 have hput:∀v,(a.put o.dst v).tmps=a.tmps:=fun v=>by rw[hdn];rfl
 have same:(Builtin.clear_ #[t] ty #[v]).run C.P w=.ok (.tuple #[]) w→R=q.rows→qb5 C o a w (qh σ [⟨E.hs,true,.heap (pset { q with rows:=R } (qgs q.et ps))⟩]):=by
  intro hr hR;subst hR;refine qt (v:= .tuple #[]) (w':=w) (by simp_all) ?_;rw[hput];obtain⟨b1,b2,b3,e1,p2,p3⟩:=(hh.1.clr (et:=q.et)).find (by rw[qeR];exact hn) (qkA hq');have hnew:=p3 w (C.free w own) own.gh q b2 (fun b hb hl=>⟨hb,hl,rfl⟩) ⟨qaJ.refl _,fun _ _=>rfl⟩ (fun _ _ _=>rfl) (qcF hq').1 p2;rw[←e1]at hnew;exact h.heapT (hnp:=hnp) qtk.nil [] [] (.inl ⟨rfl,rfl⟩) (qaJ.refl _) hd (qaA.refl _ _) (by rw[qe5,qeR];exact hn) ⟨hnew,qhX.store (q0:=q) hn (qcF hq').2 (qcF hq' |>.1▸ (qcD hq').1) (qaJ.refl _) (fun b hb hl=>⟨hb,hl,rfl⟩) (fun b hb _=>⟨.inl rfl,.inr hb⟩) hh.2⟩ (fun b hb=>⟨hb.2.1,rfl⟩) ⟨h.nodup _,zaA,fun _ _=>(by simp),fun b hb=>hb.elim (fun hb=>.inr (.inl hb)) fun hb=>absurd rfl hb.1⟩ (fun u hu=>by cases hu)
 rcases qf6 ho hq with⟨g1,g2,g3,rfl⟩|⟨g0,g1,g2,ad,n,cap,g3,⟨g4,g5,g6⟩,g7,g8⟩
 ·simp_all [run_underlying,Builtin.clear_,qra]
 unfold qra at hsome;rw[if_neg (by omega),←qa9]at hsome;obtain⟨xs,hxs,rfl⟩:=zao.1 hsome;obtain⟨b1,b2,b3,e1,p2,p3⟩:=(hh.1.clr (et:=q.et)).find (by rw[qeR];exact hn) (qkA hq');obtain⟨hd',c1,c2,c3,m1,m2,m3,m4⟩:=p2.row hxs;have hk:=(qcF hq').1;rw[hk]at m1;rw[show own.gh _ s.1.toNat=_ from g3]at m1;injection m1 with m1;subst m1;have hxn:xs.length=n:=by
  obtain⟨_,_,e2,_⟩:=m3.form;grind
 by_cases hlt:s.2.1=s.2.2
 ·have hz0:s.2.2.toNat-s.2.1.toNat=0:=by omega
  refine same ?_ ?_
  ·obtain⟨A,c,hv⟩:∃A c,v=.slice A 0 c:=by
    grind [sliced]
   rw[hv];cases A<;>simp[Builtin.clear_,run_underlying ku]
  ·rw[hz0,hlt,List.replicate_zero,zaR,zay];have:=(qbN hxs).2;grind [List.set_getElem_self]
 have hv:v=sliced ad s.2.1.toNat s.2.2.toNat cap q.e.size:=by
  grind
 have hc2:∀b∈c2,b∈own E.hs:=fun b hb=>by
  grind
 have hF0:∀b,C.free w own b→b∉c2:=fun b hb hm=>hb.2.2 _ (hc2 b hm);obtain⟨W,r1,r2,r3⟩:=qI.clr (P:=C.P) (ty:=ty) ku hzv hzs (fun w F=>k3 w F own.gh) (by omega) m3 hF0 g1 g2 g7;have hF:∀b,C.free w own b→b<w.heap.size→C.free w own b∧b<W.heap.size∧W.heap[b]? =w.heap[b]? :=fun b hb hl=>⟨hb,zaq hl r2.size,r2.block b hl (hF0 b hb)⟩;have hnd:=h.nodup E.hs;rw[e1,m2]at hnd;have hout:∀b,b∈b1∨b∈b3∨b∈c1∨b∈c3→b∉c2:=fun b hb hm=>by
  simp only[zai,zaf]at hnd;grind
 have hnew:=p3 W (C.free w own) own.gh { q with rows:=q.rows.set s.1.toNat (some (xs.take s.2.1.toNat++(zaT (s.2.2.toNat-s.2.1.toNat) q.e.dflt++xs.drop s.2.2.toNat))) } _ hF ⟨qaJ.refl _,fun _ _=>rfl⟩ (fun b hb hl=>r2.block b hl (hout b (hb.elim .inl fun h=>.inr (.inl h)))) hk
  (m4 W (C.free w own) own.gh (some _) c2 hF (qaJ.refl _) rfl (fun b hb hl=>r2.block b hl (hout b (.inr (.inr hb)))) r3)
 rw[←m2,←e1]at hnew;have hct:∀b∈c2,∃cur,w.heap[b]? =some (.cells cur q.et (0,0)):=fun b hb=>by
  obtain⟨_,e2,e3,_⟩:=m3;rw[e3]at hb;exact qcW e2 hb
 have hro:=qhX.store (q0:=q) (R:=q.rows.set s.1.toNat (some (xs.take s.2.1.toNat++(zaT (s.2.2.toNat-s.2.1.toNat) q.e.dflt++xs.drop s.2.2.toNat)))) (w':=W) (F':=C.free w own) (gh':=own.gh) (bs':=own E.hs) hn (qcF hq').2 (show q.k<100 by rw[hk];exact(qcD hq').1) (qaJ.refl _) hF (fun b hb hl=>⟨(Classical.em (b∈c2)).elim (fun e=>.inr (hct b e)) (fun e=>.inl (r2.block b hl e)),.inr hb⟩) hh.2;refine qt (v:= .tuple #[]) (w':=W) (by rw[hx,hv,r1];rfl) ?_;rw[hput];exact h.heapT (hnp:=hnp) qtk.nil [] [] (.inl ⟨rfl,rfl⟩) (qaJ.refl _) hd (r2.mono fun b hb=>.inl (hc2 b hb)) (by rw[qe5,qeR];exact hn) ⟨hnew,hro⟩ (fun b hb=>(hF b hb hb.2.1).2) ⟨h.nodup _,zaA,fun _ _=>(by simp),fun b hb=>hb.elim (fun hb=>.inr (.inl hb)) fun hb=>absurd rfl hb.1⟩ (fun u hu=>by cases hu)
theorem qpm (hE:qad E C.P) (h:qK C σ a.tmps w own) (hp:qa5 (sit C σ a.tmps w own) p) {t:Nat}{x lo hi mx:Operand}{f:Eff}(he:(qm0 E p o t x lo hi mx).run (qj σ)=some (some f)) (hd:∀u∈f.upd,u.s<σ.length) (hc:qb9 f.chk)
  (hx:(execOp a.eval o).run C.P w=((Instr.sliceAt t (a.eval x) (some (a.eval lo)) (some (a.eval hi)) (some (a.eval mx))).run C.P w).andThen fun v w=>.ok (.value v) w):qb5 C o a w (qh σ f.upd):=by
 unfold qm0 at he;obtain⟨x1,h1,he2⟩:=Q.ya he;clear he;split at he2;case h_2=>cases he2
 case h_3=>cases Q.yb he2
 rename_i k sz s k' sz' hq hT;split at he2;case isFalse=>cases he2
 rename_i hsz;subst hsz;obtain⟨l1,h2,he2⟩:=Q.ya he2;obtain⟨u1,h3,he2⟩:=Q.ya he2;obtain⟨m1,h4,he2⟩:=Q.ya he2;obtain⟨l,h5,he2⟩:=Q.ya he2;obtain⟨u,h6,he2⟩:=Q.ya he2;obtain⟨m,h7,he2⟩:=Q.ya he2;have:=Q.yb he2;injection this with this;subst this;have hb:=hc _ zar;have hm:=hc _ (zaj _ zar);rw[qhS]at hb;rw[qdZ,qdF]at hm;simp only[zad,decide_eq_true_eq]at hb hm;obtain⟨b0,b1,b2⟩:=hb;obtain⟨q1,q2⟩:=hE.heap.sl t _ _ hT;obtain⟨A,n,c,hv,f1,f2,f3⟩:=(qf6 (qF h hp h1) hq).form;have e1:=(qcH h (qF h hp h2) h5).1;have e2:=(qcH h (qF h hp h3) h6).1;have e3:=(qcH h (qF h hp h4) h7).1;have hee:C.P.elem t=E.etid t:=by simp[Program.elem,q1]
 have ht':C.P.underlying t=some (.slice (C.P.elem t)):=by grind
 refine qt (v:=sliced A l.2.toNat u.2.toNat m.2.toNat sz) (w':=w) ?_ (h.dst0 hd trivial (fun m hm=>by cases hm));rw[hx,hv,e1,e2,e3,run_sliceAt_slice w t _ _ _ _ ht',run_slice_lhm w t A n c ht' _ _ _ _ _ _ b0 b1 b2 (by omega)];simp_all
end
end Go.Vi
namespace Go.Vi
open Go.RowKit
section
variable {C:Ctx}{E:Env}{σ:St}{a:Act}{w w':World}{own:Own}{o:Oper}{p:qdU} [Tabbed E C]
theorem qtd {w:World}{b k:Nat}{cs:Array Value}{te:Nat}(h:w.heap[b]? =some (.cells cs te (0,0))):w.cell? ⟨b,k,none⟩=cs[k]? :=by simp[World.cell?,h]
theorem qdT.fn {P:Program}{F:Nat→Prop}{gh:Nat→Nat→Option Value}{ks:List (Nat×Nat×Ty)}{ts us:List Ty}{φ:hden ks→denL ts→Option (hden ks×denL us)}{v:Value}(h:qdT P w F gh ks ts us φ v):∃f caps,v=.func (.func f) #[] caps:=by
 obtain⟨f,caps,hv,_⟩:=h;exact⟨f,caps,hv⟩
theorem qvR (hE:qad E C.P) (h:qK C σ a.tmps w own) (hp:qa5 (sit C σ a.tmps w own) p) {f:Eff}
  (he:(quz E p o).run (qj σ)=some (some f)) (hd:∀u∈f.upd,u.s<σ.length):qb5 C o a w (qh σ f.upd):=by
 unfold quz at he;split at he;case h_1=>cases Q.yb he
 rename_i t0 t1 t2 hl;have hT:=hE.lst t0 t1 t2 hl;split at he
 ·rename_i t x hop;split at he;case isFalse=>cases Q.yb he
  obtain⟨x1,h1,he⟩:=Q.ya he;have he:=(Q.yb he).symm;have ho:=qF h hp h1;unfold quG at he;split at he;case h_2=>cases he
  rename_i ks φ ψ hxa;injection he with he;subst he;have hu:=ho.unowned (by rw[hxa];rfl);rw[hxa]at hu;obtain⟨_,v1,v2,g1,g2,g3⟩:=hu;have g3:a.eval x=.agg #[v1,v2]:=g3;have hx:(execOp a.eval o).run C.P w=.ok (.value (ptr w.heap.size 0)) (w.alloc (.cells (a.eval x).cells t)):=by
   unfold execOp;rw[hop];simp[Instr.box,newVar,newRow,ptr]
  have hk:=qaA.alloc (fun _=>False) w (.cells (a.eval x).cells t);have hsz:w.heap.size<(w.alloc (.cells (a.eval x).cells t)).heap.size:=by simp
  have kp:∀b,C.free w own b→b<w.heap.size→(after C σ a.tmps w (w.alloc (.cells (a.eval x).cells t)) own []).F b∧b<(w.alloc (.cells (a.eval x).cells t)).heap.size∧(w.alloc (.cells (a.eval x).cells t)).heap[b]? =w.heap[b]? :=fun b hb hlt=>
   ⟨⟨.inl hb,by simp;omega,by simp⟩,by simp;omega,qef w _ _ hlt⟩
  refine qt hx (h.dst hk hd (bs:=[]) (fun b hb=>by cases hb) zaA ⟨rfl,v1,v2,g1.keep kp (qaJ.refl _),g2.keep kp (qaJ.refl _),w.heap.size,t,rfl,⟨.inr (zax _),hsz,fun hh=>by cases hh⟩,hsz,?_⟩ (fun m hm=>by cases hm));show(w.alloc (.cells (a.eval x).cells t)).heap[w.heap.size]? =_;rw[heap_alloc_new,g3];rfl
 ·rename_i t x fl hop;split at he;case isFalse=>cases Q.yb he
  rename_i ht;subst ht;obtain⟨x1,h1,he⟩:=Q.ya he;have he:=(Q.yb he).symm;have ho:=qF h hp h1;unfold qsa at he;split at he;case h_2=>cases he
  rename_i ks φ ψ hxa;split at he;case isFalse=>cases he
  rename_i hf;injection he with he;subst he;have hu:=ho.unowned (by rw[hxa];rfl);rw[hxa]at hu;obtain⟨_,v1,v2,g1,g2,b,te,g3,g4,g5,g6⟩:=hu;obtain⟨fs,f0,f1,i0,i1,k1,k2,k3,k4,k5,k6,k7,k8,k9⟩:=hT.fields;have g3:a.eval x=ptr b 0:=g3;refine qt (v:=ptr b fl) ?_ (h.dst0 hd ⟨rfl,v1,v2,g1,g2,b,te,by show ptr b fl=ptr b (fl+1-1);rw[Nat.add_sub_cancel],g4,g5,g6⟩ (fun m hm=>by cases hm));unfold execOp;rw[hop];rcases(show fl=0∨fl=1 by omega)with rfl|rfl
  ·simp[Instr.fieldAt,run_underlying k1,k2,g3,Instr.sureAddr,fieldPlace,sizeOf,typeInfo,k6,k7,k4,ptr,Addr.add]
  ·simp[Instr.fieldAt,run_underlying k1,k3,g3,Instr.sureAddr,fieldPlace,sizeOf,typeInfo,k8,k9,k5,ptr,Addr.add]
 ·rename_i t x hop;split at he;case isFalse=>cases Q.yb he
  obtain⟨x1,h1,he⟩:=Q.ya he;have he:=(Q.yb he).symm;have ho:=qF h hp h1;have hx:(execOp a.eval o).run C.P w=((Instr.loadAt t (a.eval x)).run C.P w).andThen fun v w'=>.ok (.value v) w':=by
   unfold execOp;rw[hop];simp only[Sem.run_bind];rfl
  have hcell:∀ {b te:Nat}{v1 v2:Value},w.heap[b]? =some (.cells #[v1,v2] te (0,0))→∀n cs',(∀j z,cs'[j]? =some z→(#[v1,v2]:Array Value)[n+j]? =some z)→qem w ⟨b,n,none⟩ cs':=fun g6 n cs' hh j z hj=>by
   rename_i b te v1 v2;have:(⟨b,n,none⟩:Addr).add j=⟨b,n+j,none⟩:=by simp[Addr.add]
   rw[this,qtd g6];exact hh j z hj
  unfold qsP at he;split at he
  ·rename_i ks φ ψ hxa;split at he;case isFalse=>cases he
   rename_i ht;injection he with he;subst he;subst ht;have hu:=ho.unowned (by rw[hxa];rfl);rw[hxa]at hu;obtain⟨_,v1,v2,g1,g2,b,te,g3,g4,g5,g6⟩:=hu;have g3:a.eval x=ptr b 0:=g3;refine qt (v:= .agg #[v1,v2]) ?_ (h.dst0 hd ⟨rfl,v1,v2,g1,g2,rfl⟩ (fun m hm=>by cases hm));rw[hx,g3,show ptr b 0=.pointer (some ⟨b,0,none⟩)from rfl,qcC hT.pair (cs:=[v1,v2]) (hcell g6 0 _ fun j z hj=>by
    rw[zaP];simpa using hj) rfl]
   rfl
  ·rename_i ks φ ψ hxa;split at he;case isFalse=>cases he
   rename_i ht;injection he with he;subst he;subst ht;have hu:=ho.unowned (by rw[hxa];rfl);rw[hxa]at hu;obtain⟨_,v1,v2,g1,g2,b,te,g3,g4,g5,g6⟩:=hu;have g3:a.eval x=ptr b 0:=g3;obtain⟨f1,caps,hv1⟩:=g1.fn;refine qt (v:=v1) ?_ (h.dst0 hd ⟨rfl,g1⟩ (fun m hm=>by cases hm));rw[hx,g3,show ptr b 0=.pointer (some ⟨b,0,none⟩)from rfl,qcC hT.fst (cs:=[v1]) (hcell g6 0 _ fun j z hj=>by
    cases j with
    |zero=>simpa using hj
    |succ j=>simp at hj) rfl,hv1]
   rfl
  ·rename_i ks φ ψ hxa;split at he;case isFalse=>cases he
   rename_i ht;injection he with he;subst he;subst ht;have hu:=ho.unowned (by rw[hxa];rfl);rw[hxa]at hu;obtain⟨_,v1,v2,g1,g2,b,te,g3,g4,g5,g6⟩:=hu;have g3:a.eval x=ptr b 1:=g3;obtain⟨f1,caps,hv1⟩:=g2.fn;refine qt (v:=v2) ?_ (h.dst0 hd ⟨rfl,g2⟩ (fun m hm=>by cases hm));rw[hx,g3,show ptr b 1=.pointer (some ⟨b,1,none⟩)from rfl,qcC hT.snd (cs:=[v2]) (hcell g6 1 _ fun j z hj=>by
    cases j with
    |zero=>simpa using hj
    |succ j=>simp at hj) rfl,hv1]
   rfl
  ·cases he
 ·cases Q.yb he
end
end Go.Vi
namespace Go.Vi
open Go.RowKit
section
variable {C:Ctx}{E:Env}{σ:St}{tm:Array Value}{a:Act}{w w':World}{own:Own}{o:Oper}{p:qdU} [Tabbed E C]
theorem qmf {F:Nat→Prop}{gh:Nat→Nat→Option Value}:(ts:List Ty)→{y:denL ts}→{vs:List Value}→{i:Nat}→{r:(t:Ty)×t.den}→qba w F gh ts y vs→qsz.htupAt ts y i=some r→∃v,vs[i]? =some v∧qb3 w F gh r.1 r.2 v
 |t::ts,y,vs,0,r,⟨v,q,h1,h2,h3⟩,he=>by
  injection he with he;grind
 |t::ts,y,vs,i+1,r,⟨v,q,h1,h2,h3⟩,he=>by
  obtain⟨v',k1,k2⟩:=qmf ts h3 he;grind
 |[],_,_,i,_,_,he=>by cases i<;>cases he
theorem qoK (h:qK C σ a.tmps w own):(caps:List Operand)→{q:(cs:List Ty)×denL cs}→(qoM caps).run (qj σ)=some (some q)→qba w (C.free w own) own.gh q.1 q.2 (caps.map a.eval)
 |[],q,he=>by
  have:=Q.yb he;injection this with this;subst this;rfl
 |.tmp s::r,q,he=>by
  unfold qoM at he;rw[Q.yc]at he;split at he;case h_2=>cases Q.yb he
  rename_i k sz y hy;obtain⟨q1,h1,he⟩:=Q.ya he;split at he;case h_2=>cases Q.yb he
  rename_i q2;have:=Q.yb he;injection this with this;subst this;have hat:=h.at_ s;rw[hy]at hat;exact⟨_,_,rfl,hat.2,qoK h r h1⟩
 |.const _::_,_,he=>by cases Q.yb he
 |.func _::_,_,he=>by cases Q.yb he
 |.global _::_,_,he=>by cases Q.yb he
theorem qs7 {P:Program}{F:Nat→Prop}{gh:Nat→Nat→Option Value}{ks:List (Nat×Nat×Ty)}{ts us:List Ty}{φ:hden ks→denL ts→Option (hden ks×denL us)}{v:Value}(h:qdT P w F gh ks ts us φ v):∃(f:Nat) (caps:Array Value),v=.func (.func f) #[] caps∧
  ∀(gh':Nat→Nat→Option Value) (q:hden ks) (bs:List Nat) (x:HMs.den ks (valH ts)) (q':hden ks) (y:denL us) (vs:List Value),qaJ gh gh'→(ks.map (·.1)).Nodup→qL w F gh' (qR ks q) bs→(∀b∈bs,¬F b∧b<w.heap.size)→bs.Nodup→qbH P w F gh' ks (valH ts) x vs→φ q (ofHs ks ts x)=some (q',y)→Runs P f (vs.toArray++caps) w (qmY w F gh' ks bs us q' y):=by
 obtain⟨f,caps,h1,h3⟩:=h;exact⟨f,caps,h1,fun gh' q bs x q' y vs hg hn hh hb hbn hx hy=>h3 w F gh' q bs _ q' y vs (fun b hb hl=>⟨hb,hl,rfl⟩) hg hn hh hb hbn (qmb ts hx) hy⟩
theorem hop_ok (hE:qad E C.P) (hFn:qdr E C.P) (hH:qfN E C.P) (h:qK C σ a.tmps w own) (hp:qa5 (sit C σ a.tmps w own) p) {f:Eff}
  (he:(hop E p o).run (qj σ)=some (some f)) (hd:∀u∈f.upd,u.s<σ.length) (hc:qb9 f.chk):qb5 C o a w (qh σ f.upd):=by
 unfold hop at he;cases hop:o.op with
 |load t x=>
  rw[hop]at he;obtain⟨x1,h1,he⟩:=Q.ya he;refine qsO hE h hp.1 (qF h hp h1) he hd hc ?_;simp_all [execOp]
 |store t x y=>
  rw[hop]at he;simp only at he;split at he
  ·cases Q.yb he
  rename_i hdst;obtain⟨x1,h1,he⟩:=Q.ya he;split at he
  ·cases Q.yb he
  obtain⟨y1,h2,he⟩:=Q.ya he;refine qqS hE h hp.1 (qF h hp h1) (qF h hp h2) (by simp_all) he hd hc ?_;simp_all [execOp]
 |nilCheck x=>
  rw[hop]at he;obtain⟨x1,h1,he⟩:=Q.ya he;refine qnX h hp.1 (qF h hp h1) he hd hc fun ad e=>?_;simp_all [execOp,Addr.add]
 |fieldAddr t x fl=>
  rw[hop]at he;simp only at he;split at he;case h_2=>cases Q.yb he
  rename_i off h2;obtain⟨x1,h1,he⟩:=Q.ya he;obtain⟨fs,fd,k1,k2,k3,k4,i,k5,k6⟩:=hE.off t fl off h2;refine qnX h hp.1 (qF h hp h1) he hd hc fun ad hv=>?_;simp_all [run_underlying,execOp,Instr.fieldAt,Instr.sureAddr,fieldPlace,sizeOf,typeInfo]
 |indexAddr t x ix=>
  rw[hop]at he;obtain⟨x1,h1,he⟩:=Q.ya he;split at he;case h_2=>cases Q.yb he
  rename_i r hr;split at he;case h_2=>cases he
  rename_i k sz ht;split at he;case isFalse=>cases he
  rename_i hsz;obtain⟨i1,h2,he⟩:=Q.ya he;refine qqJ hE h (qF h hp h1) (qF h hp h2) ht (fun k' sz' s e=>?_) he hd hc ?_
  ·grind
  simp_all [execOp]
 |alloc t=>
  rw[hop]at he;refine qqT hE h he hd fun i z k1 k2=>?_;simp_all [execOp,Instr.alloc,zeroValue,typeInfo,newVar,newRow,ptr]
 |box t x=>
  rw[hop]at he;simp only at he;have hx:(execOp a.eval o).run C.P w=.ok (.value (ptr w.heap.size 0)) (w.alloc (.cells (a.eval x).cells t)):=by
   simp_all [execOp,Instr.box,newVar,newRow,ptr]
  split at he
  ·rename_i r hr;obtain⟨ps,hps,he⟩:=Q.ya he;obtain⟨_,_,_,hnp⟩:=qb7 h hps;have ho:qaC (sit C σ a.tmps w own) ⟨none,0,qjy r.1 r.2⟩ (a.eval x):=by
    unfold parOf at hr;split at hr;case h_2=>cases hr
    rename_i s;split at hr;case isFalse=>cases hr
    rename_i e;subst e;exact(qfg (X:=sit C σ a.tmps w own) (hnp.2 r (by grind [Tabbed.par]))).1
   obtain⟨q,h1,he⟩:=Q.ya he;split at he
   ·grind [Q.yb,qp7]
   ·obtain⟨f',h2,he⟩:=Q.ya he;grind [Q.yb,qrI]
  ·split at he;case h_2=>cases Q.yb he
   obtain⟨x1,h1,he⟩:=Q.ya he;exact qp7 hE h (qF h hp h1) he hd hx
 |field t x fl=>
  rw[hop]at he;obtain⟨x1,h1,he⟩:=Q.ya he;refine qre hE h (qF h hp h1) he hd ?_;simp_all [execOp]
 |slice t x lo hi mx=>
  rw[hop]at he;cases mx with
  |some m=>
   cases lo with
   |none=>cases Q.yb he
   |some lo=>cases hi with
    |none=>cases Q.yb he
    |some hi=>
     refine qpm hE h hp he hd hc ?_;simp_all [execOp]
  |none=>
   obtain⟨x1,h1,he⟩:=Q.ya he;have ho:=qF h hp h1;have hr:(execOp a.eval o).run C.P w=((Instr.sliceAt t (a.eval x) (lo.map a.eval) (hi.map a.eval) none).run C.P w).andThen fun v w=>.ok (.value v) w:=by
    simp_all [execOp]
   split at he;case h_2=>cases he
   case h_3=>cases Q.yb he
   rename_i r k sz hr' ht;split at he;case isFalse=>cases he
   rename_i hsz;have hs:∀k' sz' s,qqt x1=some (k',sz',s)→sz'=sz:=fun k' sz' s e=>by
    grind
   cases lo with
   |none=>cases hi with
    |none=>grind [qhg]
    |some hi=>
     obtain⟨b,hb,he⟩:=Q.ya he;exact qhg hE h ho (.inl ⟨rfl,rfl⟩) (.inr ⟨_,_,rfl,rfl,qF h hp hb⟩) ht hs he hd hc hr
   |some lo=>cases hi with
    |none=>
     obtain⟨b,hb,he⟩:=Q.ya he;exact qhg hE h ho (.inr ⟨_,_,rfl,rfl,qF h hp hb⟩) (.inl ⟨rfl,rfl⟩) ht hs he hd hc hr
    |some hi=>
     obtain⟨b,hb,he⟩:=Q.ya he;obtain⟨b',hb',he⟩:=Q.ya he;exact qhg hE h ho (.inr ⟨_,_,rfl,rfl,qF h hp hb⟩) (.inr ⟨_,_,rfl,rfl,qF h hp hb'⟩) ht hs he hd hc hr
 |call c=>
  rw[hop]at he;simp only at he;split at he;case h_6=>cases Q.yb he
  ·rename_i hb;split at he;case h_2=>cases Q.yb he
   rename_i x t hx hts;split at he;case h_2=>cases Q.yb he
   obtain⟨x1,h1,he⟩:=Q.ya he;refine qrg (t:=t) hE h (qF h hp h1) he hd hc ⟨o.type,?_⟩;unfold execOp;rw[hop];simp only[resolve,hb,Sem.run_bind,Sem.run_pure,Result.andThen_ok,invoke];rw[show c.args.map a.eval= #[a.eval x]from by apply Array.ext';simp[hx],show c.argTypes= #[t]from by grind];simp_all [builtin]
  ·rename_i hb;split at he;case h_2=>cases Q.yb he
   rename_i x hx;split at he;case h_2=>cases Q.yb he
   rename_i k sz t ht hts;obtain⟨x1,h1,he⟩:=Q.ya he;rw[hts]at ht;refine quq (t:=t) h (qF h hp h1) he hd ⟨o.type,(c.args.map fun|.const _=>true|_=>false),?_⟩ (hE.heap.sl t _ _ ht).1;unfold execOp;rw[hop];simp only[resolve,hb,Sem.run_bind,Sem.run_pure,Result.andThen_ok,invoke];rw[show c.args.map a.eval= #[a.eval x]from by apply Array.ext';simp[hx],show c.argTypes= #[t]from by grind];rfl
  ·rename_i hb;split at he;case h_2=>cases Q.yb he
   rename_i x y t t' hx hts;split at he;case h_2=>cases Q.yb he
   rename_i k sz ht;split at he;case isFalse=>cases he
   rename_i htt;subst htt;obtain⟨x1,h1,he⟩:=Q.ya he;obtain⟨y1,h2,he⟩:=Q.ya he;refine quh hE h ht (qF h hp h1) (qF h hp h2) he hd hc ⟨o.type,?_⟩;unfold execOp;rw[hop];simp only[resolve,hb,Sem.run_bind,Sem.run_pure,Result.andThen_ok,invoke];rw[show c.args.map a.eval= #[a.eval x,a.eval y]from by apply Array.ext';simp[hx],show c.argTypes= #[t,t]from by grind];simp_all [builtin]
  ·rename_i fn hx;split at he;case h_2=>cases Q.yb he
   rename_i D hD;obtain⟨os,h1,he⟩:=Q.ya he;have hok:=hH fn D hD;refine qqD hFn hH h (qiX h hp _ _ h1) (fn:=fn) (as:=(c.args.toList.map a.eval).toArray) (fun gh q bs x q' y hg hn hh hb hbn hx hy=>.inl ⟨hok.1 _ _,hok.2 w (C.free w own) gh q bs x q' y _ h.tabsE hn hh hb hbn hx hy⟩) he hd hc ?_;unfold execOp;rw[hop];have e1:a.eval (.func fn)=.func (.func fn) #[] #[]:=rfl;simp only[resolve,hx,e1,Deferred.ofValue,Sem.run_bind,Sem.run_pure,Result.andThen_ok,invoke];rw[show c.args.map a.eval=(c.args.toList.map a.eval).toArray from by grind];simp
  ·rename_i s hx;rw[Q.yc]at he;have hop1:=qF h hp (E:=E) (tid:=0) (x:= .tmp s) (o1:=⟨some s,(qj σ s).1,qav p (qj σ s).2⟩) rfl;have main:∀ {ks:List (Nat×Nat×Ty)}{ts us:List Ty}{φ:hden ks→denL ts→Option (hden ks×denL us)},qdT C.P w (C.free w own) own.gh ks ts us φ (a.eval (.tmp s))→
     ((qtg E p c.args.toList c.argTypes.toList).bind fun os=>qrh E o ks (valH ts) us (fun h x=>φ h (ofHs ks ts x)) os).run (qj σ)=some (some f)→qb5 C o a w (qh σ f.upd):=by
    intro ks ts us φ hfr he;obtain⟨os,h1,he⟩:=Q.ya he;obtain⟨fn,caps,hfe,hcall⟩:=qs7 hfr;refine qqD hFn hH h (qiX h hp _ _ h1) (fn:=fn) (as:=(c.args.toList.map a.eval).toArray++caps) (fun gh q bs x q' y hg hn hh hb hbn hx hy=>hcall gh q bs x q' y _ hg hn hh hb hbn hx hy) he hd hc ?_;unfold execOp;rw[hop];simp only[resolve,hx,hfe,Deferred.ofValue,Sem.run_bind,Sem.run_pure,Result.andThen_ok,invoke];rw[show c.args.map a.eval=(c.args.toList.map a.eval).toArray from by grind];simp
   split at he;case h_3=>cases Q.yb he
   ·rename_i ks ts us φ hst;refine main ?_ he;have:=hop1.unowned (by rw[hst];rfl);rw[hst]at this;exact this.2
   ·rename_i g cs y hst;have hat:=hop1.unowned (by rw[hst];rfl);rw[hst]at hat;split at he;case h_2=>cases Q.yb he
    split at he;case h_2=>cases he
    split at he;case h_2=>cases he
    rename_i φ hφ;exact main (qkF (C:=C) hFn hH (X:=sit C σ a.tmps w own) rfl h.tabsE hφ hat) he
 |makeFunc fn first caps=>
  rw[hop]at he;simp only at he;split at he;case h_2=>cases Q.yb he
  rename_i g;split at he;case isFalse=>cases Q.yb he
  rename_i hfirst;unfold quy at he;split at he;case h_1=>cases Q.yb he
  obtain⟨q,h1,he⟩:=Q.ya he;split at he;case h_2=>cases Q.yb he
  rename_i q;have:=Q.yb he;injection this with this;subst this;have hcs:=qoK h _ h1;refine qt (v:= .func (.func g) #[] (caps.map a.eval)) (w':=w) ?_ (h.dst0 hd ⟨rfl,caps.toList.map a.eval,?_,hcs⟩ (fun m hm=>by cases hm))
  ·grind [Sem.run_pure,execOp,Instr.makeFunc]
  ·congr 1;grind
 |extract x i=>
  rw[hop]at he;simp only at he;split at he;case h_2=>cases Q.yb he
  rename_i t;unfold qsz at he;rw[Q.yc]at he;split at he;case h_2=>cases Q.yb he
  rename_i ts y hcs;split at he;case h_2=>cases he
  rename_i r hr;have:=Q.yb he;injection this with this;subst this;have hat:=qid hp (h.at_ t);rw[hcs]at hat;obtain⟨_,vs,h1,h2⟩:=hat;obtain⟨v,k1,k2⟩:=qmf ts h2 hr;have hx:(execOp a.eval o).run C.P w=.ok (.value v) w:=by
   unfold execOp;rw[hop];have e:a.eval (.tmp t)=.tuple vs.toArray:=h1;simp_all [Instr.extract]
  obtain⟨m1,m2⟩:=qfg (X:=sit C σ a.tmps w own) k2;exact qt hx (h.dst0 hd m1 (fun m hm=>by grind) (by unfold qjy;split<;>rfl))
 |binOp op t x y b=>
  grind [qtu]
 |build t parts=>
  grind [qpN]
 |buildSlice t n parts=>
  grind [qt3]
 |makeInterface t x=>
  rw[hop]at he;obtain⟨x1,h1,he⟩:=Q.ya he;split at he;case h_2=>cases Q.yb he
  rename_i r k sz hr ht;split at he;case isFalse=>cases Q.yb he
  rename_i hc;obtain⟨rfl,rfl⟩:=hc;have:=Q.yb he;injection this with this;subst this;have ho:=qF h hp h1;obtain⟨k,sz,s⟩:=r;have HSL:=qf6 ho hr;have hun:=(hE.heap.sl t _ _ ht).1;refine qt (v:= .iface t (a.eval x)) ?_ (h.dst0 hd ⟨rfl,a.eval x,rfl,HSL⟩ (fun m hm=>by cases hm));unfold execOp;rw[hop];simp[Instr.makeInterface,run_underlying hun]
 |_=>grind [Q.yb]
theorem qnp (hE:qad E C.P) (hF:qdr E C.P) (hH:qfN E C.P) (hpn:∀k∈E.pins,∃b,C.pn k=some b) (h:qK C σ a.tmps w own) (hp:qa5 (sit C σ a.tmps w own) p) {f:Eff}
  (he:(qm9 E p o).run (qj σ)=some f) (hd:∀u∈f.upd,u.s<σ.length) (hc:qb9 f.chk):qb5 C o a w (qh σ f.upd):=by
 unfold qm9 at he;split at he
 ·grind [qs8]
 ·obtain⟨r0,h0,he⟩:=Q.ya he;split at he
  ·have:=Q.yb he;subst this;exact qvR hE h hp h0 hd
  obtain⟨r,h1,he⟩:=Q.ya he;split at he
  ·have:=Q.yb he;subst this;exact hop_ok hE hF hH h hp h1 hd hc
  ·exact qs8 hE hF hpn h hp he hd hc
theorem qmG {x:Operand}(h:o.op=.move x):qm9 E p o=qdR E p o:=by
 unfold qm9;split
 ·rfl
 ·have:quz E p o=.ret none:=by
   unfold quz;split
   ·rfl
   ·rw[h]
  rw[this];unfold Go.Vi.hop;rw[h];rfl
end
end Go.Vi
namespace Go.Vi
open Go.RowKit
section
variable {C:Ctx}{E:Env}{σ:St}{tm:Array Value}{a:Act}{w w':World}{own:Own}{o:Oper}{p:qdU} [Tabbed E C]
theorem qfb (h:qK C σ tm w own):∀(n s:Nat) (want:Bool) {p:qdU},(qcx n s want).run (qj σ)=some p→
  (∃b r,p=(s,(qj σ s).1,want,b)::r)∧(tm.getD s undef=.bool want→(∀q∈p,(sit C σ tm w own).ver q.1=q.2.1∧(sit C σ tm w own).tm q.1=.bool q.2.2.1∧q.2.2.2=q.2.2.1)∧qhp p=true)
 |0,_,_,_,he=>by cases he
 |n+1,s,want,p,he=>by
  simp only[qcx,Q.yc]at he;have hat:=h.at_ s;split at he
  ·rename_i b hb;have:=Q.yb he;subst this;rw[hb]at hat;have hv:tm.getD s undef=.bool b:=q9.bool hat.2;refine⟨⟨b,[],rfl⟩,fun ht=>?_⟩;rw[hv]at ht;injection ht with ht;subst ht;refine⟨fun q hq=>?_,by cases b<;>rfl⟩;simp at hq;subst hq;exact⟨rfl,hv,rfl⟩
  ·rename_i s2 v2 w2 b hb;obtain⟨r,h1,he⟩:=Q.ya he;obtain⟨⟨b3,r3,hr⟩,hp⟩:=qfb h n s2 w2 h1;rw[hr]at he;simp only at he;split at he
   ·rename_i hv;have:=Q.yb he;subst this;rw[hb]at hat;obtain⟨g1,g2⟩:=hat.2.2 hv;refine⟨⟨b,_,rfl⟩,fun ht=>?_⟩;have hw2:tm.getD s2 undef=.bool w2:=by
     by_cases hc:tm.getD s2 undef=.bool w2
     ·exact hc
     ·have:=g2 hc;rw[ht]at this;cases this
    obtain⟨k1,k2⟩:=hp hw2;have hv2:tm.getD s undef=.bool b:=q9.bool (g1 hw2).2;rw[hv2]at ht;injection ht with ht;subst ht;rw[hr]at k1 k2;refine⟨fun q hq=>?_,?_⟩
    ·rcases zak.1 hq with rfl|hq
     ·exact⟨rfl,hv2,rfl⟩
     grind
    ·have e:lit b b=true:=by cases b<;>rfl
     grind [qhp]
   ·cases he
  ·cases he
theorem qhz (h:qK C σ tm w own):∀(n s:Nat) (want:Bool) {p:qdU},(qcx n s want).run (qj σ)=some p→qhp p=true→tm.getD s undef=.bool want
 |0,_,_,_,he,_=>by cases he
 |n+1,s,want,p,he,hc=>by
  simp only[qcx,Q.yc]at he;have hat:=h.at_ s;split at he
  ·rename_i b hb;have:=Q.yb he;subst this;rw[hb]at hat;have hv:tm.getD s undef=.bool b:=q9.bool hat.2;rw[hv];cases want<;>cases b<;>simp_all [qhp,lit]
  ·rename_i s2 v2 w2 b hb;obtain⟨r,h1,he⟩:=Q.ya he;obtain⟨⟨b3,r3,hr⟩,hp⟩:=qfb h n s2 w2 h1;have ih:=qhz h n s2 w2 h1;rw[hr]at he ih;simp only at he;split at he
   ·rename_i hv;have:=Q.yb he;subst this;rw[hb]at hat;have hc2:lit want b=true∧qhp ((s2,(qj σ s2).1,w2,b3)::r3)=true:=by simpa[qhp]using hc
    have hv2:tm.getD s undef=.bool b:=q9.bool ((hat.2.2 hv).1 (ih hc2.2)).2;rw[hv2];cases want<;>cases b<;>simp_all [lit]
   ·cases he
  ·cases he
theorem qeY {σ':St}:∀(n s:Nat) (want:Bool) {p:qdU},(qcx n s want).run (qj σ)=some p→(∀q∈p,qj σ' q.1=qj σ q.1)→(qcx n s want).run (qj σ')=some p
 |0,_,_,_,he,_=>by cases he
 |n+1,s,want,p,he,hq=>by
  simp only[qcx,Q.yc]at he⊢
  split at he
  ·rename_i b hb;have:=Q.yb he;subst this;have e:=hq (s,(qj σ s).1,want,b) (by simp);simp only at e;rw[e,hb];rfl
  ·rename_i s2 v2 w2 b hb;obtain⟨r,h1,he⟩:=Q.ya he;split at he
   ·rename_i s3 v3 w3 b3 r3;split at he
    ·rename_i hv;have:=Q.yb he;subst this;have e:=hq (s,(qj σ s).1,want,b) (by simp);simp only at e;have ih:=qeY n s2 w2 h1 (fun q hm=>hq q (zaj _ hm));rw[e,hb];simp only[Q.yn,ih,Option.bind_some,if_pos hv];rfl
    ·cases he
   ·cases he
  ·cases he
theorem qks:∀(ms:List (Nat×Nat)) {u:Unit},(qoI ms).run (qj σ)=some u→∀m∈ms,m.2≤(qj σ m.1).1
 |[],_,_,m,hm=>by cases hm
 |m::r,u,he,m',hm=>by
  simp only[qoI,Q.yc]at he;split at he
  ·rename_i hle;rcases zak.1 hm with rfl|hm
   ·exact hle
   ·exact qks r he m' hm
  ·cases he
theorem qoo (s:Nat):∀(us:List U) (σ:St),s<σ.length→(qj (qh σ us) s).1=(qj σ s).1+qkC s us
 |[],_,_=>rfl
 |u::us,σ,hs=>by
  have ih:=qoo s us (qG σ u) (by rw[qM];exact hs);grind [qj,qh,qG,qkC]
theorem qjs:(us:List U)→{σ:St}→{s:Nat}→s∉us.map (·.s)→qj (qh σ us) s=qj σ s
 |[],_,_,_=>rfl
 |u::us,σ,s,h=>by
  simp only[zaC,zak,not_or]at h;exact(qjs us (σ:=qG σ u) h.2).trans (qw _ _ h.1)
def isPb:AV→Prop
 |.pbox _ _ _=>True
 |_=>False
theorem qd4 {us:List U}{d:List Nat}{tm':Array Value}{w':World}{own':Own}(h:qK C σ tm w own) (hk:∀s,s∉d→tm'.getD s undef=tm.getD s undef):
  ∀(l:List Nat) {τ:St}{us':List U},τ.length=σ.length→qK C τ tm' w' own'→(∀x,qj τ x=qj (qh σ us) x∨(isPb (qj σ x).2∧isPb (qj τ x).2))→
  (qfc us d l).run (qj σ)=some us'→(∀u∈us',u.s<σ.length)→qK C (qh τ us') tm' w' own'
 |[],τ,us',hl,hst,hi,he,hd=>by
  have:=Q.yb he;subst this;exact hst
 |t::r,τ,us',hl,hst,hi,he,hd=>by
  simp only[qfc,Q.yc]at he;split at he;case h_2=>exact qd4 h hk r hl hst hi he hd
  rename_i s v off ht;split at he;case isFalse=>exact qd4 h hk r hl hst hi he hd
  rename_i hcond;simp only[zad,Bool.not_eq_true',bne_iff_ne,ne_eq]at hcond;obtain⟨⟨⟨⟨c1,c2⟩,c3⟩,c4⟩,c5⟩:=hcond;rw[Q.yc]at he;split at he;case h_2=>exact qd4 h hk r hl hst hi he hd
  rename_i cc hs;split at he;case isFalse=>exact qd4 h hk r hl hst hi he hd
  rename_i hv;obtain⟨l',h1,he⟩:=Q.ya he;have:=Q.yb he;subst this;have hsd:s∉d:=by simpa using c3
  have htd:t∉d:=by simpa using c4
  have htl:t<σ.length:=hd _ zar;have hsl:s<σ.length:=Classical.byContradiction fun hn=>by
   grind [qj]
  have htu:t∉us.map (·.s):=fun hm=>by
   grind
  have hpt:isPb (qj τ t).2:=by
   rcases hi t with e|e
   ·rw[e,qjs us htu,ht];trivial
   ·exact e.2
  have hown:own' t=[]:=by
   have hr:=hst.rep t (by omega);generalize (qj τ t).2=q at hpt hr;cases q<;>first|exact hpt.elim|exact hr.1
  have hver:(qj τ s).1=(qj σ s).1+qkC s us:=by
   rcases hi s with e|e
   ·grind [qoo]
   ·rw[hs]at e;exact e.1.elim
  have qmK:∃b,tm'.getD s undef=ptr b 0∧tm'.getD t undef=ptr b off:=by
   have hr:=h.rep t htl;rw[ht]at hr;obtain⟨b,q1,q2⟩:=hr.2 hv;grind
  have htl':t<τ.length:=by omega
  have eT:qj (qG τ ⟨t,true,.pbox s (v+qkC s us) off⟩) t=((qj τ t).1+1,.pbox s (v+qkC s us) off):=qD τ ⟨t,true,_⟩ htl';have eN:∀x,x≠t→qj (qG τ ⟨t,true,.pbox s (v+qkC s us) off⟩) x=qj τ x:=fun x hx=>qw τ ⟨t,true,.pbox s (v+qkC s us) off⟩ hx;refine qd4 h hk r (τ:=qG τ ⟨t,true,.pbox s (v+qkC s us) off⟩) (by rw[qM];exact hl) ?_ ?_ h1 (fun u hu=>hd u (zaj _ hu))
  ·refine hst.update (fun x=>x=t) (qM _ _) rfl (fun x hx=>⟨eN x hx,rfl,rfl⟩) (fun x hx=>.inl (by grind)) (qaA.refl _ _) (fun x hx=>by omega) (fun x hx=>?_) (fun x y b hx hy _ _=>hx.trans hy.symm) (fun x hx=>?_) (fun x hx m hm=>?_) (fun x hx hh=>by subst hx;rw[eT]at hh;cases hh)
   ·grind
   ·subst hx;rw[eT,hown];exact⟨rfl,fun _=>qmK⟩
   grind [AV.mentions]
  ·intro x;by_cases hx:x=t
   ·subst hx;exact .inr ⟨by rw[ht];trivial,by rw[eT];trivial⟩
   grind
theorem qrd (h:qK C σ a.tmps w own) {f0 f:Eff}(hok:(∀u∈f0.upd,u.s<σ.length)→qb9 f0.chk→qb5 C o a w (qh σ f0.upd)) (he:(qhN E o f0).run (qj σ)=some f) (hd:∀u∈f.upd,u.s<σ.length) (hc:qb9 f.chk):qb5 C o a w (qh σ f.upd):=by
 unfold qhN at he;split at he
 ·grind [Q.yb]
 split at he;case isFalse=>
  grind [Q.yb]
 obtain⟨us,h1,he⟩:=Q.ya he;have:=Q.yb he;subst this;intro K Q1 hK;refine hok (fun u hu=>hd u (zab _ hu)) hc K Q1 fun a' w' own' hde hst=>hK a' w' own' hde ?_;rw[qbq];exact qd4 h (fun s hs=>hde.2 s (fun e=>hs (by simp[e]))) _ (qB _ _) hst (fun x=>.inl rfl) h1 fun u hu=>hd u (zaa _ hu)
def GOpOk (C:Ctx) (ops:Array Oper) (o:Oper) (a:Act) (w:World) (τ:St):Prop:=
 ∀(K:Act→World→Prop) (Q:Exit→Act→World→Prop),(∀a' w' own',qt8 o a a'→qK C τ a'.tmps w' own'→K a' w')→
  if Region.wanted o (yielded ops a.tmps)then o.wp C.P a w K Q else K (a.put o.dst undef) w
theorem qru {ops:Array Oper}{j d:Nat}(hj:(ops[j]?).bind (·.dst)=some d) {tm:Array Value}(want:Bool):(yielded ops tm j=some want)↔tm.getD d undef=.bool want:=by
 unfold yielded;rw[hj];simp only[Option.bind_some];cases hd:tm[d]? with
 |none=>
  grind [undef]
 |some v=>
  have:tm.getD d undef=v:=by simp_all
  grind
theorem qib (h:qK C σ tm w own):∀(n s:Nat) (want:Bool) {p:qdU},(qcx n s want).run (qj σ)=some p→¬tm.getD s undef=.bool want→qhp p=false
 |0,_,_,_,he,_=>by cases he
 |n+1,s,want,p,he,hne=>by
  simp only[qcx,Q.yc]at he;have hat:=h.at_ s;split at he
  ·rename_i b hb;have:=Q.yb he;subst this;rw[hb]at hat;have hv:tm.getD s undef=.bool b:=q9.bool hat.2;show lit want b=false;cases b<;>cases want<;>first|rfl|exact absurd hv hne
  ·rename_i s2 v2 w2 b hb;obtain⟨r,h1,he⟩:=Q.ya he;have ih:=qib h n s2 w2 h1;obtain⟨⟨b3,r3,hr⟩,_⟩:=qfb h n s2 w2 h1;subst hr;simp only at he;split at he
   ·rename_i hv;have:=Q.yb he;subst this;rw[hb]at hat;obtain⟨g1,g2⟩:=hat.2.2 hv;have e2:qhp ((s,(qj σ s).1,want,b)::(s2,(qj σ s2).1,w2,b3)::r3)=(lit want b&&qhp ((s2,(qj σ s2).1,w2,b3)::r3)):=rfl;rw[e2];by_cases hw2:tm.getD s2 undef=.bool w2
    ·have hv2:tm.getD s undef=.bool b:=q9.bool (g1 hw2).2;have:lit want b=false:=by cases b<;>cases want<;>first|rfl|exact absurd hv2 hne
     rw[this];rfl
    ·rw[ih hw2];simp
   ·cases he
  ·cases he
theorem qpc {e:Ty}{p:qQ}{x:List (Option (List e.den))}(h:qgZ e p=some x):({ k:=p.k,et:=p.et,e:=e,rows:=x }:qQ)=p:=by
 unfold qgZ at h;split at h
 ·rename_i he;subst he;injection h with h;subst h;rfl
 ·cases h
theorem qii: {ps qs r:List qQ}→qi8 false ps qs=some r→r=ps
 |[],[],r,h=>by injection h with h;exact h.symm
 |p::ps,q::qs,r,h=>by
  unfold qi8 at h;split at h
  ·split at h
   ·rename_i x r' h1 h2;injection h with h;subst h;rw[qii h2];rfl
   ·cases h
  ·cases h
 |[],_::_,_,h=>by cases h
 |_::_,[],_,h=>by cases h
theorem qjq: {ps qs r:List qQ}→qi8 true ps qs=some r→r=qs
 |[],[],r,h=>by injection h with h;exact h.symm
 |p::ps,q::qs,r,h=>by
  unfold qi8 at h;split at h
  ·rename_i hc;split at h
   ·rename_i x r' h1 h2;injection h with h;subst h;have e:=qpc h1;rw[qjq h2,←e,hc.1,hc.2];rfl
   ·cases h
  ·cases h
 |[],_::_,_,h=>by cases h
 |_::_,[],_,h=>by cases h
theorem qK.rebump (h:qK C σ tm w own) {t:Nat}(ht:t<σ.length):qK C (qG σ ⟨t,true,(qj σ t).2⟩) tm w own:=by
 have e1:qj (qG σ ⟨t,true,(qj σ t).2⟩) t=((qj σ t).1+1,(qj σ t).2):=qD σ ⟨t,true,(qj σ t).2⟩ ht;have e2:∀x,x≠t→qj (qG σ ⟨t,true,(qj σ t).2⟩) x=qj σ x:=fun x hx=>qw σ ⟨t,true,(qj σ t).2⟩ hx;have e3:∀x,(qj (qG σ ⟨t,true,(qj σ t).2⟩) x).2=(qj σ x).2:=fun x=>by
  by_cases hx:x=t
  ·subst hx;rw[e1]
  ·rw[e2 x hx]
 have e4:∀x,(qj σ x).1≤(qj (qG σ ⟨t,true,(qj σ t).2⟩) x).1:=fun x=>by
  by_cases hx:x=t
  ·subst hx;rw[e1];exact Nat.le_succ _
  ·rw[e2 x hx];exact zax _
 refine⟨by rw[h.size,qM],h.ghs,h.kept,h.mine,h.nodup,h.apart,fun x hx=>h.outside x (by rw[qM]at hx;exact hx),fun x hx=>?_,fun x m hm=>?_,fun x hh=>h.hat x (by rw[e3]at hh;exact hh)⟩
 ·rw[e3];refine qS.keep (X:=sit C σ tm w own) (X':=sit C (qG σ ⟨t,true,(qj σ t).2⟩) tm w own) ⟨rfl,rfl,qaJ.refl _,fun _=>rfl⟩ (fun b hb hlt=>⟨hb,hlt,rfl⟩) (fun _ _ _=>rfl) (fun m hm hv=>⟨?_,rfl,fun b hb _=>⟨hb,rfl⟩⟩) (h.rep x (by rw[qM]at hx;exact hx));have hw:=h.wf x m hm;by_cases hx:m.1=t
  ·have hv:(qj (qG σ ⟨t,true,(qj σ t).2⟩) m.1).1=m.2:=hv;rw[hx,e1]at hv;rw[hx]at hw;simp only at hv;omega
  ·have hv:(qj (qG σ ⟨t,true,(qj σ t).2⟩) m.1).1=m.2:=hv;rw[e2 _ hx]at hv;exact hv
 ·rw[e3]at hm;exact Nat.le_trans (h.wf x m hm) (e4 _)
theorem qp6 {d s:Nat}{want:Bool}{av:AV}{p:qdU}(hdl:d<σ.length) (hun:av.freeze.unowned=true) (hnu:av.freeze.isUndef=false) (hpd:∀q∈p,q.1≠d) (hsd:s≠d) (h1:(qcx 8 s want).run (qj σ)=some p) (k2:qhp p=true)
  (hst0:qK C (qh σ [⟨d,true,av⟩]) tm w own):∃own',qK C (qh σ [⟨d,true,.grd s (qj σ s).1 want av.freeze⟩]) tm w own':=by
 have eA0:qj (qh σ [⟨d,true,av⟩]) d=((qj σ d).1+1,av):=qD σ ⟨d,true,av⟩ hdl;obtain⟨own',hst,_,_,_⟩:=hst0.freeze d;rw[eA0]at hst;generalize hτ:qG (qh σ [⟨d,true,av⟩]) ⟨d,false,av.freeze⟩=τ at hst;have hlen:τ.length=σ.length:=by rw[←hτ,qM,qB]
 have eA:qj τ d=((qj σ d).1+1,av.freeze):=by
  rw[←hτ,qD (qh σ [⟨d,true,av⟩]) ⟨d,false,av.freeze⟩ (by rw[qB];exact hdl),eA0];rfl
 have eA1:∀x,x≠d→qj τ x=qj σ x:=fun x hx=>by
  rw[←hτ,qw _ _ hx];exact qw σ ⟨d,true,av⟩ hx
 have eB:qj (qh σ [⟨d,true,.grd s (qj σ s).1 want av.freeze⟩]) d=((qj σ d).1+1,.grd s (qj σ s).1 want av.freeze):=qD σ ⟨d,true,_⟩ hdl;have eN:∀x,x≠d→qj (qh σ [⟨d,true,.grd s (qj σ s).1 want av.freeze⟩]) x=qj τ x:=fun x hx=>by
  rw[eA1 x hx];exact qw σ ⟨d,true,.grd s (qj σ s).1 want av.freeze⟩ hx
 have eV:∀x,(qj (qh σ [⟨d,true,.grd s (qj σ s).1 want av.freeze⟩]) x).1=(qj τ x).1:=fun x=>by
  by_cases hx:x=d
  ·subst hx;rw[eA,eB]
  ·rw[eN x hx]
 have hsure:tm.getD s undef=.bool want:=qhz hst 8 s want (qeY 8 s want h1 fun q hq=>eA1 q.1 (hpd q hq)) k2;have hat:=hst.at_ d;rw[eA]at hat;have hbs:own' d=[]∧qS (sit C τ tm w own') av.freeze (tm.getD d undef) []:=by
  refine⟨?_,hat.unowned hun⟩;generalize av.freeze=fv at hun hnu hat;cases fv with
  |undef=>cases hnu
  |own _ _ _=>cases hun
  |agg _=>cases hun
  |box _=>cases hun
  |tup _=>cases hun
  |mp _ _ _=>cases hun
  |hbox _ _=>cases hun
  |hown _ _ _=>cases hun
  |heap _=>cases hun
  |_=>exact hat.1
 have kp:∀ {av':AV}{v:Value}{bs:List Nat},qS (sit C τ tm w own') av' v bs→qS (sit C (qh σ [⟨d,true,.grd s (qj σ s).1 want av.freeze⟩]) tm w own') av' v bs:=fun hr=>
  qS.keep (X:=sit C τ tm w own') (X':=sit C (qh σ [⟨d,true,.grd s (qj σ s).1 want av.freeze⟩]) tm w own') ⟨rfl,rfl,qaJ.refl _,fun _=>rfl⟩ (fun b hb hlt=>⟨hb,hlt,rfl⟩) (fun _ _ _=>rfl) (fun m _ hv=>⟨(eV m.1).symm.trans hv,rfl,fun b hb _=>⟨hb,rfl⟩⟩) hr
 refine⟨own',by rw[hst.size,hlen,qB],hst.ghs,hst.kept,hst.mine,hst.nodup,hst.apart,fun x hx=>hst.outside x (by rw[qB]at hx;rw[hlen];exact hx),fun x hx=>?_,fun x m hm=>?_,fun x hh=>?_⟩
 ·by_cases hxd:x=d
  ·subst hxd;rw[eB,hbs.1];exact⟨rfl,AV.yj av,fun _=>⟨fun _=>kp hbs.2,fun hn=>absurd hsure hn⟩⟩
  ·rw[eN x hxd];exact kp (hst.rep x (by rw[qB]at hx;rw[hlen];exact hx))
 ·rw[eV];by_cases hxd:x=d
  ·subst hxd;rw[eB]at hm;rcases zak.1 hm with rfl|hm
   ·rw[eA1 s hsd];exact zax _
   ·exact hst.wf x m (by rw[eA];exact hm)
  ·rw[eN x hxd]at hm;exact hst.wf x m hm
 ·by_cases hxd:x=d
  ·subst hxd;rw[eB]at hh;cases hh
  ·rw[eN x hxd]at hh;exact hst.hat x hh
theorem qn7 (hE:qad E C.P) {pin:List Nat}(hF:qoA E C pin) (hpc:qti C a.tmps) (h:qK C σ a.tmps w own) {ops:Array Oper}{g:Option (Nat×Bool)}(hg:qeW ops o=some g) {f:Eff}
  (he:(qdg E g o).run (qj σ)=some f) (hd:∀u∈f.upd,u.s<σ.length) (hc:qb9 f.chk):GOpOk C ops o a w (qh σ f.upd):=by
 intro K Q1 hK;unfold qeW at hg;split at hg
 ·rename_i hgd;injection hg with hg;subst hg;have hw:Region.wanted o (yielded ops a.tmps)=true:=by simp[Region.wanted,hgd]
  rw[if_pos hw];obtain⟨f0,h0,he⟩:=Q.ya he;exact qrd h (fun hd hc=>qnp hE hF.fns hF.hfns hF.pins h ⟨hpc,fun q hq=>by cases hq⟩ h0 hd hc) he hd hc K Q1 hK
 ·rename_i j want hgd;split at hg;case h_2=>cases hg
  rename_i s hj;injection hg with hg;subst hg;have hw:Region.wanted o (yielded ops a.tmps)=true↔a.tmps.getD s undef=.bool want:=by
   grind [qru,Region.wanted]
  obtain⟨pth,h1,he⟩:=Q.ya he;obtain⟨f1,h2,he⟩:=Q.ya he;obtain⟨⟨b',r',hp⟩,hpo⟩:=qfb h 8 s want h1;subst hp;split at he;case h_3=>cases he
  case h_2=>
   rename_i t ps' d av d' s1 v1 w1 b1 r1 hupd hdst hpath;simp only[List.cons.injEq,Prod.mk.injEq]at hpath;obtain⟨⟨rfl,rfl,rfl,rfl⟩,rfl⟩:=hpath;split at he;case isFalse=>cases he
   rename_i hcond;obtain⟨hdd,hun,hnu,hpa,hpt,hdt⟩:=hcond;subst hdd;simp only[Q.yc]at he;split at he;case h_2=>cases he
   rename_i ps hps;split at he;case h_2=>cases he
   rename_i r hr;obtain⟨_,hm0,he⟩:=Q.ya he;have:=Q.yb he;subst this;have hms:=qks _ hm0;have htl:t<σ.length:=hd ⟨t,true,.heap r⟩ (by simp);have hdl:d<σ.length:=hd ⟨d,true,.grd s (qj σ s).1 want av.freeze⟩ (by simp);have hpd:∀q∈(s,(qj σ s).1,want,b')::r',q.1≠d:=fun q hq=>by
    have:=List.all_eq_true.1 hpa q hq;simpa using this
   have hpt:∀q∈(s,(qj σ s).1,want,b')::r',q.1≠t:=fun q hq=>by
    have:=List.all_eq_true.1 hpt q hq;simpa using this
   have hsd:s≠d:=hpd _ zar;have hst':s≠t:=hpt _ zar;have eT:∀(x:Nat) (av:AV),x≠t→qj (qG σ ⟨t,true,av⟩) x=qj σ x:=fun x av hx=>qw σ ⟨t,true,av⟩ hx;by_cases hwant:Region.wanted o (yielded ops a.tmps)=true
   ·rw[if_pos hwant];have ht:=hw.1 hwant;obtain⟨k1,k2⟩:=hpo ht;rw[k2]at hr;have:=qjq hr;subst this;have hc1:qb9 f1.chk:=by
     intro x hx;have:=hc (!(qhp ((s,(qj σ s).1,want,b')::r'))||x) (List.mem_map.2 ⟨x,hx,rfl⟩);rw[k2]at this;simpa using this
    have hd1:∀u∈f1.upd,u.s<σ.length:=by
     rw[hupd];intro u hu;simp only[zak,List.not_mem_nil,or_false]at hu;rcases hu with rfl|rfl
     ·exact htl
     ·exact hdl
    have hok:=qnp hE hF.fns hF.hfns hF.pins h ⟨hpc,k1⟩ h2 hd1 hc1;rw[hupd]at hok;refine hok K Q1 fun a' w' qvx hde hst0=>?_;obtain⟨own',hst⟩:=qp6 (σ:=qG σ ⟨t,true,.heap r⟩) (by rw[qM];exact hdl) hun hnu hpd hsd (qeY 8 s want h1 fun q hq=>eT q.1 _ (hpt q hq)) k2 hst0;rw[eT s _ hst']at hst;exact hK a' w' own' hde hst
   ·rw[if_neg hwant];have hnt:¬a.tmps.getD s undef=.bool want:=fun e=>hwant (hw.2 e);rw[qib h 8 s want h1 hnt]at hr;have:=qii hr;subst this;have hb:qK C (qG σ ⟨t,true,.heap r⟩) a.tmps w own:=by
     have:=h.rebump htl;rw[hps]at this;exact this
    have hdu:qaL o (.grd s (qj σ s).1 want av.freeze)=[⟨d,true,.grd s (qj σ s).1 want av.freeze⟩]:=by unfold qaL;rw[hdst]
    obtain⟨own',hst⟩:=hb.dst0 (o:=o) (av:= .grd s (qj σ s).1 want av.freeze) (v:=undef) (by rw[hdu,qM];intro u hu;rw[zah]at hu;rw[hu];exact hdl) ⟨rfl,AV.yj av,fun _=>⟨fun e=>absurd e hnt,fun _=>rfl⟩⟩ (fun m hm=>by
     rcases zak.1 hm with rfl|hm
     ·rw[eT s _ hst'];exact zax _
     ·by_cases hx:m.1=t
      ·have:=hms m hm;rw[hx]at this⊢
       rw[qD σ ⟨t,true,.heap r⟩ htl];exact Nat.le_succ_of_le this
      ·rw[eT m.1 _ hx];exact hms m hm)
    rw[hdu]at hst;exact hK _ _ own' (qeg o a _) hst
  rename_i d av d' s1 v1 w1 b1 r1 hupd hdst hpath;simp only[List.cons.injEq,Prod.mk.injEq]at hpath;obtain⟨⟨rfl,rfl,rfl,rfl⟩,rfl⟩:=hpath;split at he;case isFalse=>cases he
  rename_i hcond;obtain⟨hdd,hun,hnu,hpa⟩:=hcond;subst hdd;obtain⟨_,hm0,he⟩:=Q.ya he;have:=Q.yb he;subst this;have hms:=qks _ hm0;have hdl:d<σ.length:=hd _ (zah.2 rfl);have hpd:∀q∈(s,(qj σ s).1,want,b')::r',q.1≠d:=fun q hq=>by
   grind
  have hsd:s≠d:=hpd _ zar;by_cases hwant:Region.wanted o (yielded ops a.tmps)=true
  ·rw[if_pos hwant];have ht:=hw.1 hwant;obtain⟨k1,k2⟩:=hpo ht;have hc1:qb9 f1.chk:=by
    intro x hx;have:=hc (!(qhp ((s,(qj σ s).1,want,b')::r'))||x) (List.mem_map.2 ⟨x,hx,rfl⟩);grind
   have hd1:∀u∈f1.upd,u.s<σ.length:=by grind
   have hok:=qnp hE hF.fns hF.hfns hF.pins h ⟨hpc,k1⟩ h2 hd1 hc1;rw[hupd]at hok;refine hok K Q1 fun a' w' qvx hde hst0=>?_;obtain⟨own',hst⟩:=qp6 hdl hun hnu hpd hsd h1 k2 hst0;exact hK a' w' own' hde hst
  ·rw[if_neg hwant];have hnt:¬a.tmps.getD s undef=.bool want:=fun e=>hwant (hw.2 e);have hdu:qaL o (.grd s (qj σ s).1 want av.freeze)=[⟨d,true,.grd s (qj σ s).1 want av.freeze⟩]:=by unfold qaL;rw[hdst]
   obtain⟨own',hst⟩:=h.dst0 (o:=o) (av:= .grd s (qj σ s).1 want av.freeze) (v:=undef) (by grind) ⟨rfl,AV.yj av,fun _=>⟨fun e=>absurd e hnt,fun _=>rfl⟩⟩ (fun m hm=>by
    rcases zak.1 hm with rfl|hm;all_goals grind)
   grind [qeg]
end
end Go.Vi
namespace Go.Vi
open Go.RowKit
section
variable {C:Ctx}{E:Env}{σ τ:St}{tm:Array Value}{a:Act}{w w':World}{own:Own}{o:Oper}{p:qdU} [Tabbed E C]
theorem qK.retag (h:qK C σ tm w own) (hl:τ.length=σ.length) (B:Nat→Prop) (qdS:∀s,¬B s→qj τ s=qj σ s)
  (hB:∀s,B s→(qj τ s).2.mentions=[]∧∀v,qS (sit C σ tm w own) (qj σ s).2 v (own s)→qS (sit C σ tm w own) (qj τ s).2 v (own s))
  (hv:∀s m,¬B s→m∈(qj σ s).2.mentions→B m.1→m.2<(qj τ m.1).1) (hH:∀s,B s→(qj τ s).2.isHeap=true→(qj σ s).2.isHeap=true):qK C τ tm w own:=by
 refine⟨by rw[hl];exact h.size,h.ghs,h.kept,h.mine,h.nodup,h.apart,fun s hs=>h.outside s (by omega),fun s hs=>?_,fun s m hm=>?_,fun s hh=>?_⟩
 ·have hr:=h.rep s (by omega);by_cases hb:B s
  ·obtain⟨k1,k2⟩:=hB s hb;exact qS.keep (X:=sit C σ tm w own) (X':=sit C τ tm w own) ⟨rfl,rfl,qaJ.refl _,fun _=>rfl⟩ (fun b hb hlt=>⟨hb,hlt,rfl⟩) (fun _ _ _=>rfl) (fun m hm=>by grind) (k2 _ hr)
  ·rw[qdS s hb];refine qS.keep (X:=sit C σ tm w own) (X':=sit C τ tm w own) ⟨rfl,rfl,qaJ.refl _,fun _=>rfl⟩ (fun b hb hlt=>⟨hb,hlt,rfl⟩) (fun _ _ _=>rfl) (fun m hm hv'=>?_) hr;have hv':(qj τ m.1).1=m.2:=hv';by_cases hbm:B m.1
   ·grind
   ·rw[qdS m.1 hbm]at hv';exact⟨hv',rfl,fun b hb _=>⟨hb,rfl⟩⟩
 ·by_cases hb:B s
  ·grind
  ·rw[qdS s hb]at hm;by_cases hbm:B m.1
   ·grind
   ·rw[qdS m.1 hbm];exact h.wf s m hm
 ·by_cases hb:B s
  ·exact h.hat s (hH s hb hh)
  ·rw[qdS s hb]at hh;exact h.hat s hh
theorem qfL {F:Nat→Prop}(b:Bool): {x y r:BC}→{cs:List Value}→{bs:List Nat}→qgl.joinB b x y=some r→qaz w F (bif b then x else y) cs bs→qaz w F r cs bs
 |.val t x,.val u y,r,cs,bs,hj,h=>by
  grind [Ty.yd,qgl.joinB]
 |.own et e xs,.own et' e' ys,r,cs,bs,hj,h=>by
  grind [Ty.yd,qgl.joinB]
 |.pair c d,.pair c' d',r,cs,bs,hj,h=>by
  simp only[qgl.joinB]at hj;split at hj
  ·rename_i r1 r2 h1 h2;split at hj
   ·injection hj with hj;subst hj;cases b
    ·obtain⟨c1,c2,b1,b2,k1,k2,k3,k4⟩:=h;exact⟨c1,c2,b1,b2,k1,k2,qfL false h1 k3,qfL false h2 k4⟩
    ·obtain⟨c1,c2,b1,b2,k1,k2,k3,k4⟩:=h;exact⟨c1,c2,b1,b2,k1,k2,qfL true h1 k3,qfL true h2 k4⟩
   ·cases hj
  ·cases hj
 |.hole n,.hole m,r,cs,bs,hj,h=>by
  grind [qgl.joinB]
 |.val _ _,.own _ _ _,_,_,_,hj,_=>by cases hj
 |.val _ _,.pair _ _,_,_,_,hj,_=>by cases hj
 |.val _ _,.hole _,_,_,_,hj,_=>by cases hj
 |.own _ _ _,.val _ _,_,_,_,hj,_=>by cases hj
 |.own _ _ _,.pair _ _,_,_,_,hj,_=>by cases hj
 |.own _ _ _,.hole _,_,_,_,hj,_=>by cases hj
 |.pair _ _,.val _ _,_,_,_,hj,_=>by cases hj
 |.pair _ _,.own _ _ _,_,_,_,hj,_=>by cases hj
 |.pair _ _,.hole _,_,_,_,hj,_=>by cases hj
 |.hole _,.val _ _,_,_,_,hj,_=>by cases hj
 |.hole _,.own _ _ _,_,_,_,hj,_=>by cases hj
 |.hole _,.pair _ _,_,_,_,hj,_=>by cases hj
def Tame (a b:AV):Prop:=b.mentions=[]∧(b.isHeap=true→a.isHeap=true)
theorem qjn (b:Bool): {ps qs rs:List qQ}→qiu b ps qs=some rs→rs=bif b then ps else qs
 |[],[],rs,h=>by injection h with h;grind
 |p::ps,q::qs,rs,h=>by
  simp only[qiu]at h;split at h
  ·rename_i hk;split at h
   ·rename_i r rs' h1 h2;injection h with h;subst h;have e:=qjn b h2;have e1:=qoz h1;cases b
    ·grind
    ·rw[e];rfl
   ·cases h
  ·cases h
 |[],_::_,_,h=>by cases h
 |_::_,[],_,h=>by cases h
theorem qjd {X:Sit}(b:Bool) {x y:AV}{v:Value}{bs:List Nat}(h:qS X (bif b then x else y) v bs):qS X (qgl b x y) v bs∧Tame (bif b then x else y) (qgl b x y):=by
 unfold qgl;split
 ·rename_i t x u y;split
  ·rename_i z hz;obtain⟨e1,e2⟩:=Ty.yd hz;subst e1;have e2:y=z:=e2;subst e2;refine⟨?_,rfl,fun h=>(by cases h)⟩;grind
  ·exact⟨trivial,rfl,fun h=>(by cases h)⟩
 ·rename_i et e xs et' e' ys;split
  ·rename_i het;subst het;split
   ·rename_i z hz;obtain⟨e1,e2⟩:=Ty.yd hz;injection e1 with e1;subst e1;have e2:ys=z:=e2;subst e2;refine⟨?_,rfl,fun h=>(by cases h)⟩;grind
   ·exact⟨trivial,rfl,fun h=>(by cases h)⟩
  ·exact⟨trivial,rfl,fun h=>(by cases h)⟩
 ·rename_i c d;split
  ·rename_i r hr;refine⟨?_,rfl,fun h=>(by cases h)⟩;cases b
   ·obtain⟨b0,cs,bs',te,k1,k2,k3,k4⟩:=h;exact⟨b0,cs,bs',te,k1,k2,qfL false hr k3,k4⟩
   ·obtain⟨b0,cs,bs',te,k1,k2,k3,k4⟩:=h;exact⟨b0,cs,bs',te,k1,k2,qfL true hr k3,k4⟩
  ·exact⟨trivial,rfl,fun h=>(by cases h)⟩
 ·rename_i k t xs k' t' ys;split
  ·rename_i het;obtain⟨e1,e2⟩:=het;subst e1;subst e2;refine⟨?_,rfl,fun h=>(by cases h)⟩;grind
  ·exact⟨trivial,rfl,fun h=>(by cases h)⟩
 ·rename_i t x u y;split
  ·rename_i z hz;obtain⟨e1,e2⟩:=Ty.yd hz;subst e1;have e2:y=z:=e2;subst e2;refine⟨?_,rfl,fun h=>(by cases h)⟩;grind
  ·exact⟨trivial,rfl,fun h=>(by cases h)⟩
 ·rename_i t x u y;split
  ·rename_i z hz;obtain⟨e1,e2⟩:=Ty.yd hz;subst e1;have e2:y=z:=e2;subst e2;refine⟨?_,rfl,fun h=>(by cases h)⟩;grind
  ·exact⟨trivial,rfl,fun h=>(by cases h)⟩
 ·rename_i k sz id i off k' sz' id' i' off';split
  ·rename_i hc;obtain⟨rfl,rfl,rfl⟩:=hc;refine⟨?_,rfl,fun h=>(by cases h)⟩;grind
  ·exact⟨trivial,rfl,fun h=>(by cases h)⟩
 ·rename_i ps qs;split
  ·rename_i rs hrs;have e:=qjn b hrs;cases b
   ·exact⟨by grind,rfl,fun _=>rfl⟩
   ·exact⟨by grind,rfl,fun _=>rfl⟩
  ·exact⟨trivial,rfl,fun h=>(by cases h)⟩
 ·rename_i et e et' e' ys;split
  ·rename_i het;subst het;split
   ·rename_i z hz;obtain⟨e1,e2⟩:=Ty.yd hz;injection e1 with e1;subst e1;have e2:ys=z:=e2;subst e2;refine⟨?_,rfl,fun h=>(by cases h)⟩;cases b
    ·exact h
    ·obtain⟨rfl,rfl⟩:=h;exact qO.nil_ _ _ _ _
   ·exact⟨trivial,rfl,fun h=>(by cases h)⟩
  ·exact⟨trivial,rfl,fun h=>(by cases h)⟩
 ·rename_i et e xs et' e';split
  ·rename_i het;obtain⟨rfl,rfl⟩:=het;refine⟨?_,rfl,fun h=>(by cases h)⟩;cases b
   ·obtain⟨rfl,rfl⟩:=h;exact qO.nil_ _ _ _ _
   ·exact h
  ·exact⟨trivial,rfl,fun h=>(by cases h)⟩
 ·rename_i et e et' e';split
  ·rename_i het;obtain⟨rfl,rfl⟩:=het;refine⟨?_,rfl,fun h=>(by cases h)⟩;grind
  ·exact⟨trivial,rfl,fun h=>(by cases h)⟩
 ·rename_i e xs e' ys;split
  ·rename_i z hz;obtain⟨e1,e2⟩:=Ty.yd hz;injection e1 with e1;subst e1;have e2:ys=z:=e2;subst e2;refine⟨?_,rfl,fun h=>(by cases h)⟩;grind
  ·exact⟨trivial,rfl,fun h=>(by cases h)⟩
 ·rename_i e xs e' ys;split
  ·rename_i z hz;obtain⟨e1,e2⟩:=Ty.yd hz;injection e1 with e1;subst e1;have e2:ys=z:=e2;subst e2;refine⟨?_,rfl,fun h=>(by cases h)⟩;cases b
   ·exact h
   ·exact⟨h.1,h.2.1⟩
  ·exact⟨trivial,rfl,fun h=>(by cases h)⟩
 ·rename_i e xs e' ys;split
  ·rename_i z hz;obtain⟨e1,e2⟩:=Ty.yd hz;injection e1 with e1;subst e1;have e2:ys=z:=e2;subst e2;refine⟨?_,rfl,fun h=>(by cases h)⟩;cases b
   ·exact⟨h.1,h.2.1⟩
   ·exact h
  ·exact⟨trivial,rfl,fun h=>(by cases h)⟩
 ·exact⟨trivial,rfl,fun h=>(by cases h)⟩
theorem BC.yl {F:Nat→Prop}:(t:Ty)→{c:BC}→{x:t.den}→{cs:List Value}→{bs:List Nat}→c.toVal t=some x→qaz w F c cs bs→qaz w F (.val t x) cs bs
 |t,.val u y,x,cs,bs,hs,h=>by
  have hs:Ty.as (t:=u) t y=some x:=by cases t<;>exact hs
  exact⟨h.1,h.2.as hs⟩
 |.pair a b,.pair c d,x,cs,bs,hs,h=>by
  simp only[BC.toVal]at hs;split at hs
  ·rename_i y z h1 h2;injection hs with hs;subst hs;obtain⟨c1,c2,b1,b2,k1,k2,k3,k4⟩:=h;have r1:=BC.yl a h1 k3;have r2:=BC.yl b h2 k4;exact⟨by rw[k2,r1.1,r2.1];rfl,c1,c2,k1,r1.2,r2.2⟩
  ·cases hs
 |t,.own _ _ _,x,cs,bs,hs,h=>by cases t<;>cases hs
 |t,.hole _,x,cs,bs,hs,h=>by cases t<;>cases hs
 |.int _,.pair _ _,x,cs,bs,hs,h=>by cases hs
 |.bool,.pair _ _,x,cs,bs,hs,h=>by cases hs
 |.str,.pair _ _,x,cs,bs,hs,h=>by cases hs
 |.unit,.pair _ _,x,cs,bs,hs,h=>by cases hs
 |.slice _,.pair _ _,x,cs,bs,hs,h=>by cases hs
 |.arr _ _,.pair _ _,x,cs,bs,hs,h=>by cases hs
theorem BC.toShape_rep {F:Nat→Prop}:(s:qcb)→{c:BC}→{x:s.den}→{cs:List Value}→{bs:List Nat}→c.toShape s=some x→qaz w F c cs bs→qaz w F (s.un x) cs bs
 |.val t,c,x,cs,bs,hs,h=>by
  exact BC.yl t hs h
 |.own et e,.own et' e' xs,x,cs,bs,hs,h=>by
  simp only[BC.toShape]at hs;split at hs
  ·rename_i het;subst het;obtain⟨e1,e2⟩:=Ty.yd hs;injection e1 with e1;subst e1;have e2:xs=x:=e2;subst e2;exact h
  ·cases hs
 |.pair a b,.pair c d,x,cs,bs,hs,h=>by
  simp only[BC.toShape]at hs;split at hs
  ·rename_i y z h1 h2;injection hs with hs;subst hs;obtain⟨c1,c2,b1,b2,k1,k2,k3,k4⟩:=h;exact⟨c1,c2,b1,b2,k1,k2,BC.toShape_rep a h1 k3,BC.toShape_rep b h2 k4⟩
  ·cases hs
 |.hole n,.hole m,x,cs,bs,hs,h=>by
  simp only[BC.toShape]at hs;split at hs
  ·rename_i hnm;subst hnm;exact h
  ·cases hs
 |.own _ _,.val _ _,_,_,_,hs,_=>by cases hs
 |.own _ _,.pair _ _,_,_,_,hs,_=>by cases hs
 |.own _ _,.hole _,_,_,_,hs,_=>by cases hs
 |.pair _ _,.val _ _,_,_,_,hs,_=>by cases hs
 |.pair _ _,.own _ _ _,_,_,_,hs,_=>by cases hs
 |.pair _ _,.hole _,_,_,_,hs,_=>by cases hs
 |.hole _,.val _ _,_,_,_,hs,_=>by cases hs
 |.hole _,.own _ _ _,_,_,_,hs,_=>by cases hs
 |.hole _,.pair _ _,_,_,_,hs,_=>by cases hs
theorem AV.toShape_rep {X:Sit}(s:qex) {av:AV}{x:s.den}{v:Value}{bs:List Nat}(hs:av.toShape s=some x) (h:qS X av v bs):qS X (s.un x) v bs∧Tame av (s.un x):=by
 cases s with
 |val t=>
  cases av with
  |val u y=>exact⟨⟨h.1,h.2.as hs⟩,rfl,fun h=>(by cases h)⟩
  |_=>cases hs
 |own et e=>
  cases av with
  |own et' e' xs=>
   simp only[AV.toShape]at hs;split at hs
   ·rename_i het;subst het;obtain⟨e1,e2⟩:=Ty.yd hs;injection e1 with e1;subst e1;have e2:xs=x:=e2;subst e2;exact⟨h,rfl,fun h=>(by cases h)⟩
   ·cases hs
  |_=>cases hs
 |box b=>
  cases av with
  |box c=>
   obtain⟨b0,cs,bs',te,k1,k2,k3,k4⟩:=h;exact⟨⟨b0,cs,bs',te,k1,k2,BC.toShape_rep b hs k3,k4⟩,rfl,fun h=>(by cases h)⟩
  |_=>cases hs
 |mp k t=>
  cases av with
  |mp k' t' xs=>
   simp only[AV.toShape]at hs;split at hs
   ·rename_i het;obtain⟨e1,e2⟩:=het;subst e1;subst e2;injection hs with hs;subst hs;exact⟨h,rfl,fun h=>(by cases h)⟩
   ·cases hs
  |_=>cases hs
 |hv t=>
  cases av with
  |hv u y=>
   obtain⟨e1,e2⟩:=Ty.yd hs;subst e1;have e2:y=x:=e2;subst e2;exact⟨h,rfl,fun h=>(by cases h)⟩
  |hp k' sz' id i off=>
   cases t with
   |ptr k sz=>
    simp only[AV.toShape]at hs;split at hs
    ·rename_i hc;obtain⟨rfl,rfl,rfl⟩:=hc;injection hs with hs;subst hs;obtain⟨h0,h1,h2,g,n,cap,h3,h4,rfl⟩:=h;exact⟨⟨h0,⟨_,rfl,.inr ⟨h1,h2,g,n,cap,h3,h4,by rw[Nat.add_zero]⟩⟩,fun h=>(by cases h),fun _ cs h=>by cases h⟩,rfl,fun h=>(by cases h)⟩
    ·cases hs
   |_=>cases hs
  |_=>cases hs
 |hbox t=>
  cases av with
  |hbox u y=>
   obtain⟨e1,e2⟩:=Ty.yd hs;subst e1;have e2:y=x:=e2;subst e2;exact⟨h,rfl,fun h=>(by cases h)⟩
  |_=>cases hs
 |heap ks=>
  cases av with
  |heap ps=>
   have e:qR ks x=ps:=qhm ks hs;refine⟨?_,rfl,fun _=>rfl⟩;show qS X (.heap (qR ks x)) v bs;grind
  |_=>cases hs
theorem qjU (σ:St) (s:Nat) (e:Ent) (x:Nat):qj (σ.set s e) x=if x=s∧s<σ.length then e else qj σ x:=by
 grind [qj]
theorem qk1:(wr:List Nat)→(σ:St)→(wr.foldl (fun σ s=>σ.set s ((qj σ s).1+1,.undef)) σ).length=σ.length∧
  ∀x,(x∈wr∧x<σ.length→(qj σ x).1<(qj (wr.foldl (fun σ s=>σ.set s ((qj σ s).1+1,.undef)) σ) x).1∧(qj (wr.foldl (fun σ s=>σ.set s ((qj σ s).1+1,.undef)) σ) x).2=.undef)∧
   (¬(x∈wr∧x<σ.length)→qj (wr.foldl (fun σ s=>σ.set s ((qj σ s).1+1,.undef)) σ) x=qj σ x)
 |[],σ=>⟨rfl,fun x=>⟨fun h=>(by cases h.1),fun _=>rfl⟩⟩
 |s::wr,σ=>by
  obtain⟨h1,h2⟩:=qk1 wr (σ.set s ((qj σ s).1+1,.undef));grind [qjU]
theorem qkE:(l:List (Nat×qex))→(x:liveDen l)→(σ:St)→(l.map (·.1)).Nodup→(qfw l x σ).length=σ.length∧(∀s,s∉l.map (·.1)→qj (qfw l x σ) s=qj σ s)∧
  ∀(τ:St),qph l τ=some x→∀s,s∈l.map (·.1)→s<σ.length→(qj (qfw l x σ) s).1=(qj σ s).1∧∀X v bs,qS X (qj τ s).2 v bs→qS X (qj (qfw l x σ) s).2 v bs∧Tame (qj τ s).2 (qj (qfw l x σ) s).2
 |[],_,σ,_=>⟨rfl,fun _ _=>rfl,fun _ _ s hs=>by cases hs⟩
 |p::r,x,σ,hn=>by
  have hn:=zaJ.1 hn;obtain⟨h1,h2,h3⟩:=qkE r x.2 (σ.set p.1 ((qj σ p.1).1,p.2.un x.1)) hn.2;refine⟨by grind [qfw],fun s hs=>?_,fun τ hp s hs hl=>?_⟩
  ·grind [qjU,qfw]
  ·simp only[qph]at hp;split at hp;case h_2=>cases hp
   rename_i y z e1 e2;injection hp with hp;subst hp;simp only[qfw];by_cases hsp:s=p.1;all_goals grind [qjU,AV.toShape_rep]
def Fr (wr:List Nat) (σ σ':St):Prop:=σ'.length=σ.length∧∀s,s∉wr→qj σ' s=qj σ s
theorem qod {A:qmT}(hlive:∀q∈A.live,q.1∈A.wr) (hn:(A.live.map (·.1)).Nodup) (x:liveDen A.live):Fr A.wr σ (qgi A σ x):=by
 obtain⟨h1,h2⟩:=qk1 A.wr σ;obtain⟨k1,k2,_⟩:=qkE A.live x (A.wr.foldl (fun σ s=>σ.set s ((qj σ s).1+1,.undef)) σ) hn;refine⟨k1.trans h1,fun s hs=>?_⟩;grind [qgi]
theorem qK.head (h:qK C τ tm w own) {A:qmT}(hlive:∀q∈A.live,q.1∈A.wr) (hn:(A.live.map (·.1)).Nodup) (hwf:∀s,∀m∈(qj σ s).2.mentions,m.2≤(qj σ m.1).1) (hfr:Fr A.wr σ τ) {x:liveDen A.live}(hx:qph A.live τ=some x):
  qK C (qgi A σ x) tm w own:=by
 obtain⟨h1,h2⟩:=qk1 A.wr σ;obtain⟨k1,k2,k3⟩:=qkE A.live x (A.wr.foldl (fun σ s=>σ.set s ((qj σ s).1+1,.undef)) σ) hn;have hver:∀s,s∈A.wr→s<σ.length→(qj σ s).1<(qj (qgi A σ x) s).1:=by
  grind [qgi]
 refine h.retag ((k1.trans h1).trans hfr.1.symm) (fun s=>s∈A.wr∧s<σ.length) (fun s hs=>?_) (fun s hs=>?_) (fun s m hs hm hb=>?_) (fun s hs hh=>?_)
 ·by_cases hw:s∈A.wr
  ·have hl:¬s<σ.length:=fun hl=>hs ⟨hw,hl⟩;have e1:qj (qgi A σ x) s=(0,.undef):=by grind [qj,qgi]
   have e2:qj τ s=(0,.undef):=by simp[qj,List.getD,List.getElem?_eq_none (show τ.length≤s by rw[hfr.1];omega)]
   rw[e1,e2]
  ·rw[(qod hlive hn x).2 s hw,hfr.2 s hw]
 ·by_cases hm:s∈A.live.map (·.1)
  ·obtain⟨_,g⟩:=k3 τ hx s hm (by omega);refine⟨?_,fun v hv=>(g _ v _ hv).1⟩;have hat:=h.at_ s;exact(g _ _ _ hat).2.1
  ·rw[qgi,k2 s hm,((h2 s).1 hs).2];exact⟨rfl,fun _ _=>trivial⟩
 ·have e:qj τ s=qj σ s:=by
   by_cases hw:s∈A.wr
   ·have hl:¬s<σ.length:=fun hl=>hs ⟨hw,hl⟩;have e1:qj σ s=(0,.undef):=by grind [qj]
    have e2:qj τ s=(0,.undef):=by simp[qj,List.getD,List.getElem?_eq_none (show τ.length≤s by rw[hfr.1];omega)]
    rw[e1,e2]
   ·exact hfr.2 s hw
  grind
 ·by_cases hm:s∈A.live.map (·.1)
  ·obtain⟨_,g⟩:=k3 τ hx s hm (by omega);exact(g _ _ _ (h.at_ s)).2.2 hh
  ·rw[qgi,k2 s hm,((h2 s).1 hs).2]at hh;cases hh
end
end Go.Vi
namespace Go.Vi
open Go.RowKit
def qbD (S:Nat→Bool):Nat→List qcw→St→St
 |_,[],σ=>σ
 |i,f::r,σ=>qbD S (i+1) r (if S i then qh σ f.us else σ)
theorem qco (S:Nat→Bool):(l:List qcw)→(i:Nat)→(σ:St)→(qbD S i l σ).length=σ.length
 |[],_,_=>rfl
 |f::r,i,σ=>by
  simp only[qbD];rw[qco S r];grind [qB]
theorem qoC {σ τ:St}{u:U}{s:Nat}(hl:σ.length=τ.length) (h:qj σ s=qj τ s):qj (qG σ u) s=qj (qG τ u) s:=by
 grind [qD,List.set_eq_of_length_le,qw,qG]
theorem qf8:(us:List U)→{σ τ:St}→{s:Nat}→σ.length=τ.length→qj σ s=qj τ s→qj (qh σ us) s=qj (qh τ us) s
 |[],_,_,_,_,h=>h
 |u::us,σ,τ,s,hl,h=>qf8 us (σ:=qG σ u) (τ:=qG τ u) (by rw[qM,qM,hl]) (qoC hl h)
theorem qeC:(us:List U)→{σ:St}→{s:Nat}→s∉us.map (·.s)→qj (qh σ us) s=qj σ s
 |[],_,_,_=>rfl
 |u::us,σ,s,h=>by
  simp only[zaC,zak,not_or]at h;exact(qeC us (σ:=qG σ u) h.2).trans (qw _ _ h.1)
theorem qcT {S S':Nat→Bool}{s:Nat}:(l:List qcw)→(i:Nat)→{σ τ:St}→σ.length=τ.length→qj σ s=qj τ s→(∀k f,l[k]? =some f→s∈f.wr→S (i+k)=S' (i+k))→qj (qbD S i l σ) s=qj (qbD S' i l τ) s
 |[],_,_,_,_,h,_=>h
 |f::r,i,σ,τ,hl,h,hS=>by
  simp only[qbD];refine qcT r (i+1) ?_ ?_ fun k f' hk hs=>by
   have:=hS (k+1) f' (by simpa using hk) hs;grind
  ·grind [qB]
  ·by_cases hs:s∈f.wr
   ·have:=hS 0 f rfl hs;grind [qf8]
   ·have n1:∀ρ:St,qj (qh ρ f.us) s=qj ρ s:=fun ρ=>qeC f.us hs;grind
theorem qmL {σ τ:St}(hl:σ.length=τ.length) (h:∀s,qj σ s=qj τ s):σ=τ:=by
 apply List.ext_getElem?;intro s;by_cases hs:s<σ.length
 ·have:=h s;grind [qj]
 grind
theorem qhV:(l:List qcw)→(i:Nat)→(σ:St)→qbD (fun _=>false) i l σ=σ
 |[],_,_=>rfl
 |f::r,i,σ=>by simp only[qbD,Bool.false_eq_true,if_false];exact qhV r (i+1) σ
theorem qcl:(l:List qcw)→(i m:Nat)→(σ:St)→qbD (fun k=>decide (k<i+m)) i l σ=qaV (l.take m) σ
 |[],i,m,σ=>by simp[qbD,qaV]
 |f::r,i,0,σ=>by
  have:qbD (fun k=>decide (k<i+0)) i (f::r) σ=qbD (fun _=>false) i (f::r) σ:=by
   grind [qmL,qco,qcT]
  rw[this,qhV];rfl
 |f::r,i,m+1,σ=>by
  simp only[qbD];rw[if_pos (by simp)];have:=qcl r (i+1) m (qh σ f.us);rw[show i+1+m=i+(m+1) by omega]at this;rw[this];rfl
theorem Q.run_congr {α:Type}{lk lk':Nat→Ent}:(q:Q α)→(∀s∈q.log lk,lk' s=lk s)→q.run lk'=q.run lk
 |.ret _,_=>rfl
 |.fail,_=>rfl
 |.get s k,h=>by
  have h0:=h s zar;simp only[Q.run,h0];exact Q.run_congr (k (lk s)) fun s' hs'=>h s' (zaj _ hs')
def qst (E:Env) (ops:Array Oper) (σ:St) (l:List Oper) (fl:List qcw) (c:List Bool):Prop:=
 fl.length=l.length∧∀k o ft,l[k]? =some o→fl[k]? =some ft→∃g f,qeW ops o=some g∧(qdg E g o).run (qj (qaV (fl.take k) σ))=some f∧ft= { rd:=(qdg E g o).log (qj (qaV (fl.take k) σ)),us:=f.upd } ∧(∀u∈f.upd,u.s<σ.length)∧∀b∈f.chk,b∈c
theorem qjv {E:Env}{wr:List Nat}{ops:Array Oper}:(l:List Oper)→{σ σ':St}→{c c':List Bool}→{fs fs':List qcw}→qdH E wr ops l σ c fs=some (σ',c',fs')→
  ∃fl,fs'=fl.reverse++fs∧qst E ops σ l fl c'∧σ'=qaV fl σ∧∀b∈c,b∈c'
 |[],σ,σ',c,c',fs,fs',he=>by
  simp only[qdH,Option.some.injEq,Prod.mk.injEq]at he;obtain⟨rfl,rfl,rfl⟩:=he;exact⟨[],rfl,⟨rfl,fun k o ft h=>by simp at h⟩,rfl,fun b h=>h⟩
 |o::r,σ,σ',c,c',fs,fs',he=>by
  simp only[qdH]at he;split at he
  ·cases he
  rename_i g hg;split at he
  ·cases he
  rename_i f hf;split at he;case isFalse=>cases he
  rename_i hu;obtain⟨fl,h1,⟨h2,h3⟩,h4,h5⟩:=qjv r he;refine⟨{ rd:=(qdg E g o).log (qj σ),us:=f.upd } ::fl,by rw[h1];simp,⟨by simp[h2],fun k o' ft hk hft=>?_⟩,by rw[h4];rfl,fun b hb=>h5 b (zab _ hb)⟩;cases k with
  |zero=>
   simp at hk hft;subst hk;subst hft;refine⟨g,f,hg,hf,rfl,fun u hm=>?_,fun b hb=>h5 b (zaa _ hb)⟩;grind
  |succ k=>
   obtain⟨g',f',k1,k2,k3,k4,k5⟩:=h3 k o' ft (by simpa using hk) (by simpa using hft);exact⟨g',f',k1,k2,k3,fun u hm=>by grind [qB],k5⟩
theorem qjp {ms:List Nat}{j:Nat}:(es:List Nat)→(m:Nat)→(es.foldl (fun m j=>m|||(1 <<< j)|||ms.getD j 0) m).testBit j=true→m.testBit j=true∨j∈es∨∃k∈es,(ms.getD k 0).testBit j=true
 |[],m,h=>.inl h
 |e::es,m,h=>by
  rcases qjp es _ h with h|h|⟨k,hk,h⟩;all_goals grind [Nat.one_shiftLeft]
theorem qms {m:Nat}{f:qcw}:(l:List qcw)→(j:Nat)→qmJ m f j l=true→∀k g,l[k]? =some g→m.testBit (j+k)=true∨qe0 f g=true
 |[],_,_,k,g,h=>by simp at h
 |x::r,j,hp,k,g,h=>by
  simp only[qmJ,zad,Bool.or_eq_true]at hp;cases k with
  |zero=>grind
  |succ k=>
   have:=qms r (j+1) hp.2 k g (by simpa using h);grind
theorem qnT:(os:List Oper)→(fs:List qcw)→(ms:List Nat)→(done:List qcw)→ms.length=done.length→qgX os fs ms done=true→
  ∃M:List Nat,M.length=os.length∧fs.length=os.length∧∀k o f,os[k]? =some o→fs[k]? =some f→(∀j∈qbk o,j<ms.length+k)∧(ms++M).getD (ms.length+k) 0=qfD ((ms++M).take (ms.length+k)) (qbk o)∧
   ∀j g,j<ms.length+k→(done++fs)[j]? =some g→((ms++M).getD (ms.length+k) 0).testBit j=true∨qe0 f g=true
 |[],[],_,_,_,_=>⟨[],rfl,rfl,fun k o f h=>by simp at h⟩
 |o::os,f::fs,ms,done,hl,h=>by
  simp only[qgX,zad]at h;obtain⟨h1,h2,h3⟩:=h;obtain⟨M,k1,k2,k3⟩:=qnT os fs _ _ (by simp[hl]) h3;refine⟨qfD ms (qbk o)::M,by simp[k1],by simp[k2],fun k o' f' ho hf=>?_⟩;have e1:ms++qfD ms (qbk o)::M=(ms++[qfD ms (qbk o)])++M:=by simp
  have e2:done++f::fs=(done++[f])++fs:=by simp
  cases k with
  |zero=>
   simp at ho hf;subst ho;subst hf;refine⟨fun j hj=>by grind,?_,fun j g hj hg=>?_⟩
   ·grind
   ·rw[Nat.add_zero]at hj⊢
    have hg':done[j]? =some g:=by grind
    have:=qms done 0 h2 j g hg';grind
  |succ k=>
   obtain⟨q1,q2,q3⟩:=k3 k o' f' (by simpa using ho) (by simpa using hf);have e3:(ms++[qfD ms (qbk o)]).length+k=ms.length+(k+1):=by simp;omega
   rw[e3]at q1 q2 q3;grind
 |[],_::_,_,_,_,h=>by cases h
 |_::_,[],_,_,_,h=>by cases h
def qh1 (ops:Array Oper) (S:Nat→Bool):Prop:=∀i o,ops[i]? =some o→S i=true→∀j∈qbk o,S j=true
theorem qg4 {ops:Array Oper}{fl:List qcw}(h:qgX ops.toList fl [] []=true):fl.length=ops.size∧∃M:List Nat,∀k o f,ops[k]? =some o→fl[k]? =some f→(∀j∈qbk o,j<k)∧M.getD k 0=qfD (M.take k) (qbk o)∧∀j g,j<k→fl[j]? =some g→(M.getD k 0).testBit j=true∨qe0 f g=true:=by
 obtain⟨M,h1,h2,h3⟩:=qnT ops.toList fl [] [] rfl h;refine⟨by simpa using h2,M,fun k o f ho hf=>?_⟩;have:=h3 k o f (by simpa using ho) hf;simpa using this
theorem qd7 {ops:Array Oper}{fl:List qcw}{M:List Nat}(hlen:fl.length=ops.size) (hM:∀k o f,ops[k]? =some o→fl[k]? =some f→(∀j∈qbk o,j<k)∧M.getD k 0=qfD (M.take k) (qbk o)∧∀j g,j<k→fl[j]? =some g→(M.getD k 0).testBit j=true∨qe0 f g=true)
  {S:Nat→Bool}(hS:qh1 ops S):∀(n k:Nat) (o:Oper),k<n→ops[k]? =some o→(∀j∈qbk o,S j=true)→∀j,(M.getD k 0).testBit j=true→S j=true
 |0,k,o,h,_,_,_,_=>by omega
 |n+1,k,o,hk,ho,he,j,hj=>by
  have hks:k<ops.size:=(Array.getElem?_eq_some_iff.1 ho).1;obtain⟨q1,q2,_⟩:=hM k o _ ho (zac (by omega));rw[q2]at hj;rcases qjp _ _ hj with h|h|⟨k',hk',h⟩
  ·simp at h
  ·exact he j h
  ·have hlt:=q1 k' hk';have ho':ops[k']? =some ops[k']:=Array.getElem?_eq_getElem (by omega);have e:(M.take k).getD k' 0=M.getD k' 0:=by
    grind
   rw[e]at h;exact qd7 hlen hM hS n k' _ (by omega) ho' (hS k' _ ho' (he k' hk')) j h
theorem qnf {f g:qcw}(h:qe0 f g=true) {s:Nat}:(s∈f.wr→s∉g.rd∧s∉g.wr)∧(s∈g.wr→s∉f.rd):=by
 simp only[qe0,zad]at h;have h1:=qeB h.1;grind [qeB]
theorem qow {ops:Array Oper}{fl:List qcw}(h:qgX ops.toList fl [] []=true) {S:Nat→Bool}(hS:qh1 ops S) {i:Nat}{o:Oper}{f:qcw}(ho:ops[i]? =some o) (hf:fl[i]? =some f) (hn:S i=false) (he:∀j∈qbk o,S j=true)
  {s:Nat}(hs:s∈f.rd∨s∈f.wr):∀j g,fl[j]? =some g→s∈g.wr→S j=decide (j<i):=by
 obtain⟨hlen,M,hM⟩:=qg4 h;intro j g hg hw;have hjs:j<ops.size:=by
  grind
 have hoj:ops[j]? =some ops[j]:=Array.getElem?_eq_getElem hjs;rcases Nat.lt_trichotomy j i with hlt|heq|hgt
 ·rw[decide_eq_true hlt];cases hSj:S j with
  |true=>rfl
  |false=>
   rcases(hM i o f ho hf).2.2 j g hlt hg with hb|hb
   ·have:=qd7 hlen hM hS (i+1) i o (by omega) ho he j hb;grind
   grind [qnf]
 ·grind
 ·rw[decide_eq_false (by omega)];cases hSj:S j with
  |false=>rfl
  |true=>
   rcases(hM j _ g hoj hg).2.2 i f hgt hf with hb|hb
   ·have:=qd7 hlen hM hS (j+1) j _ (by omega) hoj (hS j _ hoj hSj) i hb;grind
   grind [qnf]
theorem qjl {ops:Array Oper}{fl:List qcw}{σ:St}(h:qgX ops.toList fl [] []=true) {S:Nat→Bool}(hS:qh1 ops S) {i:Nat}{o:Oper}{f:qcw}(ho:ops[i]? =some o) (hf:fl[i]? =some f) (hn:S i=false) (he:∀j∈qbk o,S j=true)
  {s:Nat}(hs:s∈f.rd∨s∈f.wr):qj (qbD S 0 fl σ) s=qj (qaV (fl.take i) σ) s:=by
 grind [qcl,qcT,qow]
theorem qh4 {fl:List qcw}{i:Nat}{f:qcw}(hf:fl[i]? =some f) (σ:St):qaV (fl.take (i+1)) σ=qh (qaV (fl.take i) σ) f.us:=by
 grind [List.take_add_one,qaV]
theorem qpG {ops:Array Oper}{fl:List qcw}{σ:St}(h:qgX ops.toList fl [] []=true) {S S':Nat→Bool}(hS:qh1 ops S) {i:Nat}{o:Oper}{f:qcw}(ho:ops[i]? =some o) (hf:fl[i]? =some f) (hn:S i=false) (he:∀j∈qbk o,S j=true)
  (hS1:S' i=true) (hS2:∀j,j≠i→S' j=S j):qbD S' 0 fl σ=qh (qbD S 0 fl σ) f.us:=by
 apply qmL
 ·rw[qB,qco,qco]
 ·intro s;by_cases hs:s∈f.wr
  ·have h1:qj (qbD S' 0 fl σ) s=qj (qaV (fl.take (i+1)) σ) s:=by
    have hb:=qcl fl 0 (i+1) σ;rw[zaP]at hb;rw[←hb];refine qcT fl 0 rfl rfl fun k g hg hw=>?_;rw[zaP];by_cases hk:k=i
    ·grind
    ·rw[hS2 k hk,qow h hS ho hf hn he (.inr hs) k g hg hw];grind
   grind [qh4,qf8,qjl,qco,qcl]
  ·rw[qeC _ hs];grind [qcT]
theorem qhB {ops:Array Oper}{listed:Array Bool}{i:Nat}(h:i∈Region.ready .any ops listed):i<ops.size∧listed.getD i true=false∧∃o,ops[i]? =some o∧∀j∈qbk o,listed.getD j false=true:=by
 simp only[Region.ready,List.mem_filter,List.mem_range,zad,Bool.not_eq_true']at h;obtain⟨h1,h2,h3⟩:=h;have ho:ops[i]? =some ops[i]:=Array.getElem?_eq_getElem h1;refine⟨h1,h2,_,ho,fun j hj=>?_⟩;rw[ho]at h3;simp only[Option.map_some,Option.getD_some]at h3;rw[←Array.all_toList,List.all_eq_true]at h3;grind [qbk]
theorem ql2 {ops:Array Oper}{listed:Array Bool}{i:Nat}{o:Oper}(ho:ops[i]? =some o) (hl:listed.getD i true=false) (he:∀j∈qbk o,listed.getD j false=true):i∈Region.ready .any ops listed:=by
 simp only[Region.ready,List.mem_filter,List.mem_range,zad,Bool.not_eq_true'];refine⟨(Array.getElem?_eq_some_iff.1 ho).1,hl,?_⟩;rw[ho];simp only[Option.map_some,Option.getD_some];rw[←Array.all_toList,List.all_eq_true];intro e hm;by_cases hb:Region.binds .any e=true
 ·rw[he e.on (List.mem_map.2 ⟨e,List.mem_filter.2 ⟨hm,hb⟩,rfl⟩)];simp
 ·simp[hb]
theorem qk8 (S:Nat→Bool):(l l':List qcw)→l.map (·.us)=l'.map (·.us)→∀i σ,qbD S i l σ=qbD S i l' σ
 |[],[],_,_,_=>rfl
 |[],_::_,h,_,_=>by cases h
 |_::_,[],h,_,_=>by cases h
 |f::l,f'::l',h,i,σ=>by
  simp only[zaC,List.cons.injEq]at h;simp only[qbD,h.1];exact qk8 S l l' h.2 _ _
theorem qit:(l l':List qcw)→l.map (·.us)=l'.map (·.us)→∀σ,qaV l σ=qaV l' σ
 |[],[],_,_=>rfl
 |[],_::_,h,_=>by cases h
 |_::_,[],h,_=>by cases h
 |f::l,f'::l',h,σ=>by
  simp only[zaC,List.cons.injEq]at h;simp only[qaV,List.foldl_cons,h.1];exact qit l l' h.2 _
theorem qku (pins:List Nat) (σ:St) (fl:List qcw):(os:List Oper)→(fs:List qcw)→fs.length=os.length→(qgo pins σ fl os fs).map (·.us)=fs.map (·.us)
 |[],[],_=>rfl
 |[],_::_,h=>by cases h
 |_::_,[],h=>by cases h
 |o::os,f::fs,h=>by
  simp only[qgo,zaC,qku pins σ fl os fs (by simpa using h)];grind
theorem qoS (pins:List Nat) (σ:St) (fl:List qcw):(os:List Oper)→(fs:List qcw)→fs.length=os.length→∀(i:Nat) (o:Oper) (f f':qcw),os[i]? =some o→fs[i]? =some f→(qgo pins σ fl os fs)[i]? =some f'→f'.rd=f.rd∨∃s,qft o=some s∧(qn5 σ fl s||qlC pins σ fl s)=true
 |[],_,_,i,o,f,f',h,_,_=>by simp at h
 |_::_,[],h,_,_,_,_,_,_,_=>by cases h
 |o'::os,f0::fs,h,i,o,f,f',h1,h2,h3=>by
  cases i with
  |zero=>
   grind [qgo]
  |succ i=>
   simp only[qgo,List.getElem?_cons_succ]at h1 h2 h3;exact qoS pins σ fl os fs (by simpa using h) i o f f' h1 h2 h3
theorem qjw {s:Nat}:(us:List U)→{σ:St}→qfC (qj σ s).2=true→us.all (fun u=>u.s !=s||(!u.bump&&qfC u.a))=true→(qj (qh σ us) s).1=(qj σ s).1∧qfC (qj (qh σ us) s).2=true
 |[],_,h,_=>⟨rfl,h⟩
 |u::us,σ,h,hu=>by
  simp only[List.all_cons,zad]at hu;have key:(qj (qG σ u) s).1=(qj σ s).1∧qfC (qj (qG σ u) s).2=true:=by
   grind [qD,List.set_eq_of_length_le,qw,qG]
  obtain⟨k1,k2⟩:=qjw us (σ:=qG σ u) key.2 hu.2;exact⟨k1.trans key.1,k2⟩
theorem qge {S:Nat→Bool}{s:Nat}:(l:List qcw)→(i:Nat)→{σ:St}→qfC (qj σ s).2=true→l.all (fun f=>f.us.all (fun u=>u.s !=s||(!u.bump&&qfC u.a)))=true→(qj (qbD S i l σ) s).1=(qj σ s).1∧qfC (qj (qbD S i l σ) s).2=true
 |[],_,_,h,_=>⟨rfl,h⟩
 |f::l,i,σ,h,hl=>by
  simp only[List.all_cons,zad]at hl;simp only[qbD];split
  ·obtain⟨k1,k2⟩:=qjw f.us h hl.1;obtain⟨k3,k4⟩:=qge l (i+1) k2 hl.2;exact⟨k3.trans k1,k4⟩
  ·exact qge l (i+1) h hl.2
theorem qsj {E:Env}{o:Oper}{s:Nat}(ho:qft o=some s) {lk lk':Nat→Ent}(h1:qfC (lk s).2=true) (h2:qfC (lk' s).2=true) (h3:(lk' s).1=(lk s).1):(qdg E none o).run lk'=(qdg E none o).run lk:=by
 unfold qft at ho;split at ho;case h_2=>cases ho
 rename_i s' hg hop;injection ho with ho;subst ho;cases ha:lk s' with
 |mk v a=>
  cases ha':lk' s' with
  |mk v' a'=>
   rw[ha]at h1 h3;rw[ha']at h2 h3;simp only at h1 h2 h3;subst h3;cases a<;>simp only[qfC,Bool.false_eq_true]at h1;cases a'<;>simp only[qfC,Bool.false_eq_true]at h2;simp only[qdg,qmG hop,qdR,hop,opd,Q.bind,Q.run,ha,ha',qav,qrw,Bool.false_eq_true,if_false,okE];grind [qhN,qaL,qo2,Q.run]
theorem qkq {s:Nat}:(us:List U)→{σ:St}→qgn (qj σ s).2=true→us.all (fun u=>u.s !=s||qgn u.a)=true→qgn (qj (qh σ us) s).2=true
 |[],_,h,_=>h
 |u::us,σ,h,hu=>by
  simp only[List.all_cons,zad]at hu;refine qkq us (σ:=qG σ u) ?_ hu.2;grind [qD,List.set_eq_of_length_le,qw,qG]
theorem qg5 {S:Nat→Bool}{s:Nat}:(l:List qcw)→(i:Nat)→{σ:St}→qgn (qj σ s).2=true→l.all (fun f=>f.us.all (fun u=>u.s !=s||qgn u.a))=true→qgn (qj (qbD S i l σ) s).2=true
 |[],_,_,h,_=>h
 |f::l,i,σ,h,hl=>by
  simp only[List.all_cons,zad]at hl;simp only[qbD];split
  ·exact qg5 l (i+1) (qkq f.us h hl.1) hl.2
  ·exact qg5 l (i+1) h hl.2
theorem qt5 {E:Env}{o:Oper}{s:Nat}(ho:qft o=some s) (hp:E.pins.contains s=true) {lk lk':Nat→Ent}(h1:qgn (lk s).2=true) (h2:qgn (lk' s).2=true):(qdg E none o).run lk'=(qdg E none o).run lk:=by
 unfold qft at ho;split at ho;case h_2=>cases ho
 rename_i s' hg hop;injection ho with ho;subst ho;cases ha:lk s' with
 |mk v a=>
  cases ha':lk' s' with
  |mk v' a'=>
   rw[ha]at h1;rw[ha']at h2;simp only at h1 h2;cases a<;>simp only[qgn,Bool.false_eq_true]at h1;cases a'<;>simp only[qgn,Bool.false_eq_true]at h2;simp only[qdg,qmG hop,qdR,hop,opd,Q.bind,Q.run,ha,ha',qav,qrw,hp,if_true,okE];grind [qhN,qaL,qo2,Q.run]
theorem qsq {ops:Array Oper}{o:Oper}{s:Nat}{g:Option (Nat×Bool)}(ho:qft o=some s) (hg:qeW ops o=some g):g=none:=by
 grind [qft,qeW]
theorem qhU:(os:List Oper)→(ms:List Nat)→∀j,j<ms.length→(qbR os ms)[j]? =ms[j]?
 |[],_,_,_=>rfl
 |o::os,ms,j,h=>by
  simp only[qbR];rw[qhU os _ j (by simp;omega),List.getElem?_append_left h]
theorem qmx:(os:List Oper)→(ms:List Nat)→∀k o,os[k]? =some o→(qbR os ms).getD (ms.length+k) 0=qfD ((qbR os ms).take (ms.length+k)) (qbk o)
 |[],_,k,o,h=>by simp at h
 |o'::os,ms,0,o,h=>by
  simp only[List.getElem?_cons_zero,Option.some.injEq]at h;subst h;have e:(qbR (o'::os) ms).take ms.length=ms:=by
   apply List.ext_getElem?;grind [qhU]
  grind [qhU,qbR]
 |o'::os,ms,k+1,o,h=>by
  have:=qmx os (ms++[qfD ms (qbk o')]) k o (by simpa using h);simp only[qbR];grind
theorem qqy {ops:Array Oper}{M:List Nat}(hM:∀k o,ops[k]? =some o→M.getD k 0=qfD (M.take k) (qbk o)∧∀j∈qbk o,j<k):∀n k,k<n→k<ops.size→M.getD k 0=(qbR ops.toList []).getD k 0
 |0,_,h,_=>by omega
 |n+1,k,h,hk=>by
  have ho:ops[k]? =some ops[k]:=Array.getElem?_eq_getElem hk;obtain⟨h1,h2⟩:=hM k _ ho;have h3:=qmx ops.toList [] k ops[k] (by simpa using ho);simp only[List.length_nil,zaP]at h3;rw[h1,h3];have key:∀j∈qbk ops[k],(M.take k).getD j 0=((qbR ops.toList []).take k).getD j 0:=fun j hj=>by
   have hlt:=h2 j hj;have:=qqy hM n j (by omega) (by omega);grind
  have gen:∀(es:List Nat) (m:Nat),(∀j∈es,(M.take k).getD j 0=((qbR ops.toList []).take k).getD j 0)→es.foldl (fun m j=>m|||(1 <<< j)|||(M.take k).getD j 0) m=es.foldl (fun m j=>m|||(1 <<< j)|||((qbR ops.toList []).take k).getD j 0) m:=by
   intro es;induction es with
   |nil=>intro m _;rfl
   |cons e es ih=>
    grind
  exact gen _ _ key
theorem qtR {E:Env}{k:Nat}{id:Int}{τ τ':St}(h:qdS E k id τ τ'=true):qdd E k id τ=qdd E k id τ':=by
 grind [qsX,qdS]
theorem qmn {E:Env}{σ:St}{ms:List Nat}{fl:List qcw}{i k:Nat}{id:Int}:(l:List qcw)→(j0:Nat)→∀j g,l[j]? =some g→g.wr.contains E.hs=true→j0+j≠i→(if j0+j<i then(ms.getD i 0).testBit (j0+j)else(ms.getD (j0+j) 0).testBit i)=false→
  qdS E k id (qaV (fl.take (j0+j)) σ) (qaV (fl.take (j0+j+1)) σ)∈qmk E σ ms fl i k id j0 l
 |[],_,j,g,h,_,_,_=>by simp at h
 |x::l,j0,0,g,h,hw,hj,hu=>by
  grind [qmk]
 |x::l,j0,j+1,g,h,hw,hj,hu=>by
  have e:j0+(j+1)=j0+1+j:=by omega
  rw[e]at hj hu⊢
  have:=qmn (E:=E) (σ:=σ) (ms:=ms) (fl:=fl) (i:=i) (k:=k) (id:=id) l (j0+1) j g (by simpa using h) hw hj hu;grind [qmk]
def qr6 (E:Env) (ops:Array Oper) (σ:St) (fl:List qcw) (i:Nat) (o:Oper) (f f':qcw):Prop:=
 ∃k id,qle E (qaV (fl.take i) σ) o=some (k,id)∧f.wr.contains E.hs=false∧f'.rd=f.rd.filter (· !=E.hs)∧
  ∀j g,fl[j]? =some g→g.wr.contains E.hs=true→j≠i→(if j<i then((qbR ops.toList []).getD i 0).testBit j else((qbR ops.toList []).getD j 0).testBit i)=false→qdS E k id (qaV (fl.take j) σ) (qaV (fl.take (j+1)) σ)=true
theorem qqo {E:Env}{σ:St}{ms:List Nat}{fl:List qcw}:(os:List Oper)→(fs:List qcw)→(i:Nat)→fs.length=os.length→(qic E σ ms fl i os fs).1.map (·.us)=fs.map (·.us)
 |[],[],_,_=>rfl
 |[],_::_,_,h=>by cases h
 |_::_,[],_,h=>by cases h
 |o::os,f::fs,i,h=>by
  have ih:=qqo (E:=E) (σ:=σ) (ms:=ms) (fl:=fl) os fs (i+1) (by simpa using h);grind [qic]
theorem qqn {E:Env}{ops:Array Oper}{σ:St}{fl:List qcw}:(os:List Oper)→(fs:List qcw)→(i0:Nat)→(∀b∈(qic E σ (qbR ops.toList []) fl i0 os fs).2,b=true)→∀(i:Nat) (o:Oper) (f f':qcw),os[i]? =some o→fs[i]? =some f→(qic E σ (qbR ops.toList []) fl i0 os fs).1[i]? =some f'→f'=f∨qr6 E ops σ fl (i0+i) o f f'
 |[],_,_,_,i,o,f,f',h,_,_=>by simp at h
 |_::_,[],_,_,i,o,f,f',_,h,_=>by simp at h
 |o'::os,f0::fs,i0,hc,i,o,f,f',h1,h2,h3=>by
  have ih:=qqn (E:=E) (ops:=ops) (σ:=σ) (fl:=fl) os fs (i0+1);simp only[qic]at hc h3;cases i with
  |zero=>
   simp only[List.getElem?_cons_zero,Option.some.injEq]at h1 h2;subst h1;subst h2;split at h3
   ·rename_i k id hk;split at h3
    ·grind
    ·rename_i hw;split at h3
     ·grind
     ·simp only[List.getElem?_cons_zero,Option.some.injEq]at h3;subst h3;refine .inr ⟨k,id,hk,by simpa using hw,rfl,fun j g hg hgw hj hu=>?_⟩;rename_i hne;rw[hk]at hc;simp only at hc;rw[if_neg hw]at hc;have hm:=qmn (E:=E) (σ:=σ) (ms:=qbR ops.toList []) (fl:=fl) (i:=i0) (k:=k) (id:=id) fl 0 j g hg hgw (by simpa using hj) (by simpa using hu);simp only[zaP]at hm;exact hc _ (zab _ hm)
   grind
  |succ i=>
   have e:i0+(i+1)=i0+1+i:=by omega
   rw[e];refine ih ?_ i o f f' (by simpa using h1) (by simpa using h2) ?_
   ·intro b hb;apply hc;grind
   grind
theorem qhA {ops:Array Oper}{fl:List qcw}(h:qgX ops.toList fl [] []=true) {S:Nat→Bool}(hS:qh1 ops S) (s:Nat):∀L,∃m,m≤L∧∀n g,n<L→fl[n]? =some g→s∈g.wr→S n=decide (n<m)
 |0=>⟨0,zax _,fun n g hn=>by omega⟩
 |L+1=>by
  obtain⟨m,hm,ih⟩:=qhA h hS s L;obtain⟨hlen,M,hM⟩:=qg4 h;cases hg:fl[L]? with
  |none=>
   refine⟨m,by omega,fun n g hn hgn hw=>?_⟩;grind
  |some g=>
   by_cases hc:s∈g.wr∧S L=true
   ·refine⟨L+1,zax _,fun n g' hn hgn hw=>?_⟩;rw[decide_eq_true hn];by_cases e:n=L
    ·grind
    ·have hL:L<ops.size:=by grind
     have ho:ops[L]? =some ops[L]:=Array.getElem?_eq_getElem hL;rcases(hM L _ g ho hg).2.2 n g' (by omega) hgn with hb|hb
     ·exact qd7 hlen hM hS (L+1) L _ (by omega) ho (hS L _ ho hc.2) n hb
     ·exact absurd hw ((qnf hb (s:=s)).1 hc.1).2
   ·refine⟨m,by omega,fun n g' hn hgn hw=>?_⟩;grind
theorem qi0 {E:Env}{k:Nat}{id:Int}{σ:St}{fl:List qcw}{x:Nat}:(d:Nat)→(∀n,x≤n→n<x+d→qdd E k id (qaV (fl.take n) σ)=qdd E k id (qaV (fl.take (n+1)) σ))→qdd E k id (qaV (fl.take x) σ)=qdd E k id (qaV (fl.take (x+d)) σ)
 |0,_=>rfl
 |d+1,h=>(qi0 d fun n h1 h2=>h n h1 (by omega)).trans (h (x+d) (by omega) (by omega))
theorem qrq {E:Env}{ops:Array Oper}{fl fl0:List qcw}{σ:St}(h:qgX ops.toList fl [] []=true) (hus:fl.map (·.us)=fl0.map (·.us)) {S:Nat→Bool}(hS:qh1 ops S) {i:Nat}{o:Oper}{f:qcw}(ho:ops[i]? =some o) (hf:fl[i]? =some f) (hn:S i=false) (he:∀j∈qbk o,S j=true)
  (hw:f.wr.contains E.hs=false) {k:Nat}{id:Int}(hs:∀j g,fl0[j]? =some g→g.wr.contains E.hs=true→j≠i→(if j<i then((qbR ops.toList []).getD i 0).testBit j else((qbR ops.toList []).getD j 0).testBit i)=false→qdS E k id (qaV (fl0.take j) σ) (qaV (fl0.take (j+1)) σ)=true):
  qdd E k id (qbD S 0 fl σ)=qdd E k id (qaV (fl.take i) σ):=by
 obtain⟨hlen,M,hM⟩:=qg4 h;have hM':=qqy (ops:=ops) (M:=M) fun k o ho=>by
  grind
 have hi:i<ops.size:=(Array.getElem?_eq_some_iff.1 ho).1;obtain⟨m,hm,hpre⟩:=qhA h hS E.hs fl.length;have e1:qj (qbD S 0 fl σ) E.hs=qj (qaV (fl.take m) σ) E.hs:=by
  have hb:=qcl fl 0 m σ;rw[zaP]at hb;rw[←hb];exact qcT fl 0 rfl rfl fun n g hg hgw=>by
   grind
 have e2:qdd E k id (qbD S 0 fl σ)=qdd E k id (qaV (fl.take m) σ):=by unfold qdd;rw[e1]
 rw[e2];have step:∀n,(∀g,fl[n]? =some g→E.hs∈g.wr→n≠i∧(if n<i then(M.getD i 0).testBit n else(M.getD n 0).testBit i)=false)→qdd E k id (qaV (fl.take n) σ)=qdd E k id (qaV (fl.take (n+1)) σ):=by
  intro n hn';cases hg:fl[n]? with
  |none=>
   grind [List.getElem?_eq_none_iff,zan]
  |some g=>
   have hnl:n<ops.size:=by grind
   rw[qh4 hg];by_cases hgw:E.hs∈g.wr
   ·obtain⟨q1,q2⟩:=hn' g hg hgw;have hlen0:fl0.length=fl.length:=by have:=congrArg List.length hus;grind
    have hg0:fl0[n]? =some fl0[n]:=zac (by omega);have hu0:(fl0[n]).us=g.us:=by
     have h1:(fl.map (·.us))[n]? =(fl0.map (·.us))[n]? :=by rw[hus]
     grind
    have hw0:(fl0[n]).wr.contains E.hs=true:=by
     grind [qcw.wr]
    have q2':(if n<i then((qbR ops.toList []).getD i 0).testBit n else((qbR ops.toList []).getD n 0).testBit i)=false:=by
     rw[←hM' (i+1) i (by omega) hi,←hM' (n+1) n (by omega) hnl];exact q2
    have:=qtR (hs n _ hg0 hw0 q1 q2');have t:∀x,qaV (fl0.take x) σ=qaV (fl.take x) σ:=fun x=>qit _ _ (by grind [List.map_take]) σ;grind [qh4]
   grind [qeC,qdd,qcw.wr]
 have hwi:∀g,fl[i]? =some g→E.hs∉g.wr:=fun g hg=>by
  grind
 rcases Nat.le_total m i with hle|hle
 ·obtain⟨d,rfl⟩:=Nat.exists_eq_add_of_le hle;refine qi0 d fun n h1 h2=>step n fun g hg hgw=>⟨by omega,?_⟩;rw[if_pos h2];cases hb:(M.getD (m+d) 0).testBit n with
  |false=>rfl
  |true=>
   have:=qd7 hlen hM hS (m+d+1) (m+d) o (by omega) ho he n hb;grind
 ·obtain⟨d,rfl⟩:=Nat.exists_eq_add_of_le hle;refine(qi0 d fun n h1 h2=>step n fun g hg hgw=>?_).symm;have hne:n≠i:=fun e=>hwi g (e▸hg) hgw;refine⟨hne,?_⟩;rw[if_neg (by omega)];cases hb:(M.getD n 0).testBit i with
  |false=>rfl
  |true=>
   have hnl:n<ops.size:=by omega
   have hon:ops[n]? =some ops[n]:=Array.getElem?_eq_getElem hnl;have hSn:S n=true:=by grind
   have:=qd7 hlen hM hS (n+1) n _ (by omega) hon (hS n _ hon hSn) i hb;grind
theorem qrb {E:Env}{o:Oper}{τ:St}{k:Nat}{id:Int}(ho:qle E τ o=some (k,id)) {lk:Nat→Ent}(h1:∀s,s≠E.hs→s∈(qdg E none o).log (qj τ)→lk s=qj τ s) {ps:List qQ}(h2:(lk E.hs).2=.heap ps) (h3:qlV k id ps=qdd E k id τ) {f:Eff}(hf:(qdg E none o).run (qj τ)=some f):(qdg E none o).run lk=some f:=by
 unfold qle at ho;split at ho;case h_2=>cases ho
 rename_i t s hon hls hg hpo;split at ho;case h_2=>cases ho
 rename_i k' sz id' i off hp;split at ho
 ·cases ho
 rename_i hne;simp only[Option.some.injEq,Prod.mk.injEq]at ho;obtain⟨rfl,rfl⟩:=ho;have hs:lk s=qj τ s:=h1 s hne (by
  simp only[qdg,qm9,hon,quz,hls,Vi.hop,hpo,opd,Q.bind,Q.log];exact zar)
 have q1:∀lk':Nat→Ent,lk' s=qj τ s→(qdg E none o).run lk'=match lk' E.hs with
  |(_,.heap ps')=>(match vty E t,qcg k' ps' with
   |some u,some p=>if p.e.size=sz then(match p.e.sub (qJ (qy (qkn k' ps' p id') []) i p.e.dflt) off u with
    |some y=>some ⟨qaL o (qjy u y),[qp (qkn k' ps' p id')]⟩
    |none=>none)else none
   |_,_=>none)
  |_=>none:=by
  intro lk' hl;have rf:∀(u:Ty) (y:u.den) (c:List Bool),(qhN E o ⟨qaL o (qjy u y),c⟩).run lk'=some ⟨qaL o (qjy u y),c⟩:=by
   grind [qhN,qaL,qo2,Q.run]
  simp only[qdg,qm9,hon,quz,hls,Vi.hop,hpo,opd,Q.bind,Q.run,hl];unfold qoH;rw[hp];unfold qfK;simp only[Q.bind,Q.run];cases hh:lk' E.hs with
  |mk v av=>
   cases av<;>try rfl
   rename_i ps';simp only[Q.bind];cases vty E t with
   |none=>rfl
   |some u=>
    cases qcg k' ps' with
    |none=>rfl
    |some p=>
     simp only;split
     ·cases p.e.sub (qJ (qy (qkn k' ps' p id') []) i p.e.dflt) off u with
      |none=>rfl
      |some y=>exact rf u y _
     ·rfl
 rw[q1 _ rfl]at hf;rw[q1 _ hs];cases hh:qj τ E.hs with
 |mk v av=>
  rw[hh]at hf;cases av with
  |heap ps0=>
   have h3:qlV k' id' ps=qlV k' id' ps0:=by grind [qdd]
   cases hl:lk E.hs with
   |mk v' av'=>
    rw[hl]at h2;simp only at h2;subst h2;simp only at hf⊢
    unfold qlV at h3;cases hu:vty E t with
    |none=>grind
    |some u=>
     rw[hu]at hf;cases hp0:qcg k' ps0 with
     |none=>grind
     |some p=>
      rw[hp0]at hf h3;cases hp1:qcg k' ps with
      |none=>grind
      |some p1=>
       grind
  |_=>cases hf
theorem qpS {E:Env}{ops:List Oper}{σ:St}{fl:List qcw}(h:fl.length=ops.length):(qfd E ops σ fl).1.map (·.us)=fl.map (·.us):=by
 grind [qku,qqo,zaH,qfd]
theorem qpK {E:Env}{ops:Array Oper}{σ:St}{fl:List qcw}(h:fl.length=ops.toList.length) (hc:∀b∈(qfd E ops.toList σ fl).2,b=true) (i:Nat) (o:Oper) (f f':qcw) (h1:ops.toList[i]? =some o) (h2:fl[i]? =some f) (h3:(qfd E ops.toList σ fl).1[i]? =some f'):
  f'.rd=f.rd∨(∃s,qft o=some s∧(qn5 σ fl s||qlC E.pins σ fl s)=true)∨qr6 E ops σ fl i o f f':=by
 have hs:=qoS E.pins σ fl ops.toList fl h i o f;have hsu:=qku E.pins σ fl ops.toList fl h;unfold qfd at hc h3;split at h3
 ·rename_i hon;rw[hon]at hc;simp only at hc;have hl:=congrArg List.length hsu;simp only[zaH]at hl;have hi:i<fl.length:=(zaK.1 h2).1;have hg:(qgo E.pins σ fl ops.toList fl)[i]? =some (qgo E.pins σ fl ops.toList fl)[i]:=zac (by omega);have hus:((qgo E.pins σ fl ops.toList fl)[i]'(by omega)).us=f.us:=by
   have h4:((qgo E.pins σ fl ops.toList fl).map (·.us))[i]? =(fl.map (·.us))[i]? :=by rw[hsu]
   grind
  rcases qqn ops.toList _ 0 hc i o _ f' h1 hg h3 with e|⟨k,id,w1,w2,w3,w4⟩
  ·grind
  ·rw[zaP]at w1 w4;rcases hs _ h1 h2 hg with q|⟨s,q,_⟩
   ·refine .inr (.inr ⟨k,id,w1,?_,by rw[w3,q],w4⟩);grind [qcw.wr]
   grind
 grind
theorem qrr {E:Env}{o:Oper}{τ:St}{k:Nat}{id:Int}(ho:qle E τ o=some (k,id)) {f:Eff}(hf:(qdg E none o).run (qj τ)=some f):∃ps,(qj τ E.hs).2=.heap ps∧(qlV k id ps).isSome=true:=by
 unfold qle at ho;split at ho;case h_2=>cases ho
 rename_i t s hon hls hg hpo;split at ho;case h_2=>cases ho
 rename_i k' sz id' i off hp;split at ho
 ·cases ho
 simp only[Option.some.injEq,Prod.mk.injEq]at ho;obtain⟨rfl,rfl⟩:=ho;simp only[qdg,qm9,hon,quz,hls,Vi.hop,hpo,opd,Q.bind,Q.run]at hf;unfold qoH at hf;rw[hp]at hf;unfold qfK at hf;simp only[Q.bind,Q.run]at hf;grind [Q.bind,qlV,Q.run]
theorem qK.drew {C:Ctx}{σ:St}{tm:Array Value}{w:World}{own:Own}(h:qK C σ tm w own):qK C σ tm w.drew own:=
 ⟨h.size,h.ghs,h.kept.drew,h.mine,h.nodup,h.apart,h.outside,fun s hs=>qS.keep (X:= { P:=C.P,ver:=fun s=>(qj σ s).1,tm:=fun s=>tm.getD s undef,w,F:=C.free w own,own,gh:=own.gh,pn:=C.pn }) (X':= { P:=C.P,ver:=fun s=>(qj σ s).1,tm:=fun s=>tm.getD s undef,w:=w.drew,F:=C.free w.drew own,own,gh:=own.gh,pn:=C.pn }) ⟨rfl,rfl,qaJ.refl _,fun _=>rfl⟩ (fun b hb hlt=>⟨hb,hlt,rfl⟩) (fun _ _ _=>rfl) (fun m hm hv=>⟨hv,rfl,fun b hb hp=>⟨hb,rfl⟩⟩) (h.rep s hs),h.wf,h.hat⟩
end Go.Vi
namespace Go.Vi
open Go.RowKit
section
variable {C:Ctx}{E:Env}{σ τ:St}{tm:Array Value}{a:Act}{w w':World}{own:Own}{o:Oper}{p:qdU} [Tabbed E C]
theorem qnA: {c:List Bool}→qvb c=true→qb9 c
 |[],_=>fun b hb=>by cases hb
 |[x],h=>fun b hb=>by simp at hb;rw[hb];exact h
 |x::y::r,h=>fun b hb=>by
  simp only[qvb,zad]at h;rcases zak.1 hb with rfl|hb
  ·exact h.1
  ·exact qnA h.2 b hb
theorem qeJ {wr:List Nat}:(us:List U)→{σ:St}→(∀u∈us,u.s∈wr)→Fr wr σ (qh σ us)
 |[],σ,_=>⟨rfl,fun _ _=>rfl⟩
 |u::us,σ,h=>by
  obtain⟨h1,h2⟩:=qeJ us (σ:=qG σ u) (fun v hv=>h v (zaj _ hv));refine⟨by grind [qh,qG],fun s hs=>?_⟩;grind [qj,qh,qG]
theorem Fr.trans {wr:List Nat}{a b c:St}(h:Fr wr a b) (k:Fr wr b c):Fr wr a c:=⟨k.1.trans h.1,fun s hs=>(k.2 s hs).trans (h.2 s hs)⟩
theorem Fr.refl (wr:List Nat) (a:St):Fr wr a a:=⟨rfl,fun _ _=>rfl⟩
theorem Fr.mono {wr wr':List Nat}{a b:St}(h:Fr wr a b) (hs:∀s∈wr,s∈wr'):Fr wr' a b:=⟨h.1,fun s hn=>h.2 s fun hm=>hn (hs s hm)⟩
def quL (σ σ':St):Prop:=∀s,(qj σ s).1≤(qj σ' s).1
theorem qpd (σ:St) (u:U):quL σ (qG σ u):=fun s=>by
 grind [qD,List.set_eq_of_length_le,qw,qG]
theorem quL.trans {a b c:St}(h:quL a b) (k:quL b c):quL a c:=fun s=>Nat.le_trans (h s) (k s)
theorem qjA:(us:List U)→(σ:St)→quL σ (qh σ us)
 |[],_=>fun _=>zax _
 |u::us,σ=>(qpd σ u).trans (qjA us (qG σ u))
theorem qi5 {wr:List Nat}{ops:Array Oper}:(l:List Oper)→{σ σ':St}→{c c':List Bool}→{fs fs':List qcw}→qdH E wr ops l σ c fs=some (σ',c',fs')→
  Fr wr σ σ'∧quL σ σ'∧(∀b∈c,b∈c')∧(∀f∈fs,f∈fs')∧Fr (fs'.flatMap (·.wr)) σ σ'
 |[],σ,σ',c,c',fs,fs',he=>by
  simp only[qdH,Option.some.injEq,Prod.mk.injEq]at he;obtain⟨rfl,rfl,rfl⟩:=he;exact⟨Fr.refl _ _,fun _=>zax _,fun _ h=>h,fun _ h=>h,Fr.refl _ _⟩
 |o::r,σ,σ',c,c',fs,fs',he=>by
  simp only[qdH]at he;split at he
  ·cases he
  rename_i g hg;split at he
  ·cases he
  rename_i f hf;split at he;case isFalse=>cases he
  rename_i hu;obtain⟨h1,h2,h3,h4,h5⟩:=qi5 r he;have hu':∀u∈f.upd,u.s∈wr:=fun u hm=>by
   grind
  refine⟨(qeJ f.upd hu').trans h1,(qjA _ _).trans h2,fun b hb=>h3 b (zab _ hb),fun x hx=>h4 x (zaj _ hx),(qeJ f.upd fun u hm=>?_).trans h5⟩;exact List.mem_flatMap.2 ⟨_,h4 _ zar,List.mem_map_of_mem hm⟩
def qdt (pin:List Nat) (a a':Act):Prop:=a'.defers=a.defers∧∀s∈pin,a'.tmps.getD s undef=a.tmps.getD s undef
theorem qdt.refl (pin:List Nat) (a:Act):qdt pin a a:=⟨rfl,fun _ _=>rfl⟩
theorem qdt.trans {pin:List Nat}{a b c:Act}(h:qdt pin b c) (k:qdt pin a b):qdt pin a c:=⟨h.1.trans k.1,fun s hs=>(h.2 s hs).trans (k.2 s hs)⟩
theorem qdt.pinC {pin:List Nat}{a a':Act}(hF:qoA E C pin) (hpc:qti C a.tmps) (h:qdt pin a a'):qti C a'.tmps:=fun k b hb=>(h.2 k (hF.sub k b hb)).trans (hpc k b hb)
theorem qmj (hE:qad E C.P) {pin wr:List Nat}(hF:qoA E C pin) {ops:Array Oper}{Q:Exit→Act→World→Prop}:(l:List Oper)→qmy pin l=true→{σ σ':St}→{a:Act}→{w:World}→{own:Own}→{c c':List Bool}→{fs fs':List qcw}→
  qdH E wr ops l σ c fs=some (σ',c',fs')→qb9 c'→qti C a.tmps→qK C σ a.tmps w own→(∀a' w' own',qdt pin a a'→qK C σ' a'.tmps w' own'→Q .normal a' w')→wpList C.P ops Q l a w
 |[],_,σ,σ',a,w,own,c,c',fs,fs',he,_,_,h,hQ=>by
  simp only[qdH,Option.some.injEq,Prod.mk.injEq]at he;obtain⟨rfl,_,_⟩:=he;exact hQ a w own (qdt.refl _ _) h
 |o::r,hp,σ,σ',a,w,own,c,c',fs,fs',he,hc,hpc,h,hQ=>by
  simp only[qmy,List.all_cons,zad]at hp;simp only[qdH]at he;split at he
  ·cases he
  rename_i g hg;split at he
  ·cases he
  rename_i f hf;split at he;case isFalse=>cases he
  rename_i hu;have hu':∀u∈f.upd,u.s<σ.length:=fun u hm=>by
   grind
  obtain⟨_,_,h3,_,_⟩:=qi5 r he;have hcf:qb9 f.chk:=fun b hb=>hc b (h3 b (zaa _ hb));have hok:=qn7 hE hF hpc h hg hf hu' hcf (wpList C.P ops Q r) Q fun a' w' own' hd hst=>by
   have hk:qdt pin a a':=⟨hd.1,fun s hs=>hd.2 s fun e=>qeB hp.1 s (by simp[e]) hs⟩;exact qmj hE hF r hp.2 he hc (hk.pinC hF hpc) hst fun a2 w2 own2 hd2 hst2=>hQ a2 w2 own2 (hd2.trans hk) hst2
  grind [wpList]
theorem qrl {listed:Array Bool}(h:listed.toList.countP (fun b=> !b)=0) {i:Nat}(hi:i<listed.size):listed.getD i false=true:=by
 have:=List.countP_eq_zero.1 h listed[i] (by simp);simp_all
theorem qtN (hE:qad E C.P) {pin:List Nat}(hF:qoA E C pin) {ops:Array Oper}{Q:Exit→Act→World→Prop}{fl0 fl:List qcw}{c:List Bool}{a0:Act}(hp:qmy pin ops.toList=true) (hd:qst E ops σ ops.toList fl0 c) (hus:fl.map (·.us)=fl0.map (·.us)) (hsoft:∀(i:Nat) (o:Oper) (f f':qcw),ops.toList[i]? =some o→fl0[i]? =some f→fl[i]? =some f'→f'.rd=f.rd∨(∃s,qft o=some s∧(qn5 σ fl0 s||qlC E.pins σ fl0 s)=true)∨qr6 E ops σ fl0 i o f f') (hg:qgX ops.toList fl [] []=true) (hc:qb9 c) (hpc:qti C a0.tmps)
  (hQ:∀a' w' own',qdt pin a0 a'→qK C (qaV fl σ) a'.tmps w' own'→Q .normal a' w'):∀(fuel:Nat) (listed:Array Bool) (a:Act) (w:World) (own:Own),listed.size=ops.size→listed.toList.countP (fun b=> !b)=fuel→qh1 ops (fun i=>listed.getD i false)→qdt pin a0 a→
   qK C (qbD (fun i=>listed.getD i false) 0 fl σ) a.tmps w own→wpAny C.P .any ops Q fuel listed a w:=by
 have hlen0:fl0.length=ops.size:=by have:=hd.1;omega
 have hlen:fl.length=ops.size:=by grind [zaH]
 have full:∀ {listed:Array Bool},(∀i,i<ops.size→listed.getD i false=true)→qbD (fun i=>listed.getD i false) 0 fl σ=qaV fl σ:=by
  intro listed hall;have hb:=qcl fl 0 fl.length σ;rw[List.take_length]at hb;rw[←hb];apply qmL;all_goals grind [qco,qcT]
 intro fuel;induction fuel with
 |zero=>
  intro listed a w own hs hcnt hcl hk hst;have hall:∀i,i<ops.size→listed.getD i false=true:=fun i hi=>qrl hcnt (by omega);refine⟨?_,hQ a w own hk (by simp_all)⟩;cases hr:Region.ready .any ops listed with
  |nil=>rfl
  |cons i r=>
   obtain⟨h1,h2,_⟩:=qhB (ops:=ops) (listed:=listed) (i:=i) (by grind);grind
 |succ fuel ih=>
  intro listed a w own hs hcnt hcl hk hst;refine⟨fun hr=>?_,fun i hi=>?_⟩
  ·have hall:∀i,i<ops.size→listed.getD i false=true:=by
    intro i;induction i using Nat.strongRecOn with
    |ind i ihi=>
     intro hi;cases hb:listed.getD i false with
     |true=>rfl
     |false=>
      have ho:ops[i]? =some ops[i]:=Array.getElem?_eq_getElem hi;obtain⟨_,M,hM⟩:=qg4 hg;obtain⟨q1,_,_⟩:=hM i _ _ ho (zac (by omega));have hb':listed.getD i true=false:=by
       grind
      have:=ql2 ho hb' fun j hj=>ihi j (q1 j hj) (by grind);grind
   exact hQ a w own hk (by rw[full hall]at hst;exact hst)
  ·obtain⟨h1,h2,o,ho,he⟩:=qhB hi;have hf:fl[i]? =some fl[i]:=zac (by omega);have hn:listed.getD i false=false:=by
    grind
   have hf0:fl0[i]? =some fl0[i]:=zac (by omega);obtain⟨g,f,k1,k2,k3,k4,k5⟩:=hd.2 i o _ (by simpa using ho) hf0;have hui:(fl[i]).us=f.upd:=by
    have h1:(fl.map (·.us))[i]? =(fl0.map (·.us))[i]? :=by rw[hus]
    grind
   have hta:qaV (fl0.take i) σ=qaV (fl.take i) σ:=qit _ _ (by grind [List.map_take]) σ;have hrun:(qdg E g o).run (qj (qbD (fun i=>listed.getD i false) 0 fl σ))=some f:=by
    rw[←k2];rcases hsoft i o _ _ (by simpa using ho) hf0 hf with hrd|⟨s,hs1,hs2⟩|⟨kp,id,w1,w2,w3,w4⟩
    ·grind [Go.Vi.Q.run_congr,qjl]
    ·have hgn:=qsq hs1 k1;subst hgn;rcases Bool.or_eq_true_iff.1 hs2 with hs2|hs2
     ·simp only[qn5,zad]at hs2;obtain⟨a1,a2⟩:=qge (S:=fun i=>listed.getD i false) fl0 0 hs2.1 hs2.2;grind [qge,qk8,qcl,qsj]
     ·simp only[qlC,zad]at hs2;have a2:=qg5 (S:=fun i=>listed.getD i false) fl0 0 hs2.2.1 hs2.2.2;grind [qg5,qk8,qcl,qt5]
    ·rw[k2];have hgn:g=none:=by
      grind [qle,qeW]
     subst hgn;have w2':(fl[i]).wr.contains E.hs=false:=by
      grind [qcw.wr]
     have hv:=qrq (E:=E) (k:=kp) (id:=id) hg hus hcl ho hf hn he w2' w4;rw[hta]at w1 k2 k3;have htx:∃ps0,(qj (qaV (fl.take i) σ) E.hs).2=.heap ps0∧(qlV kp id ps0).isSome=true:=qrr w1 k2;obtain⟨ps0,hp0,hps0⟩:=htx;have hv0:qdd E kp id (qaV (fl.take i) σ)=qlV kp id ps0:=by unfold qdd;rw[hp0]
     have hps:∃ps,(qj (qbD (fun i=>listed.getD i false) 0 fl σ) E.hs).2=.heap ps∧qlV kp id ps=qdd E kp id (qaV (fl.take i) σ):=by
      grind [qdd]
     grind [qrb,qjl]
   have hok:=qn7 hE hF (hk.pinC hF hpc) hst k1 hrun (fun u hu=>by grind [qco]) (fun b hb=>hc b (k5 b hb)) (wpAny C.P .any ops Q fuel (listed.setIfInBounds i true)) Q fun a' w' own' hkd hst'=>?_
   ·grind [wpOp]
   ·have qdD:∀j,(listed.setIfInBounds i true).getD j false=if j=i then true else listed.getD j false:=by
     intro j;simp only[Array.getD_eq_getD_getElem?,Array.getElem?_setIfInBounds];grind
    refine ih _ a' w' own' (by simpa using hs) ?_ ?_ ?_ ?_
    ·rw[Array.toList_setIfInBounds,List.countP_set (by simp;omega),hcnt];have hb:listed.toList[i]'(by simp;omega)=false:=by
      rw[Array.getD_eq_getD_getElem?,Array.getElem?_eq_getElem (by omega)]at hn;simpa using hn
     rw[hb];simp
    ·intro j oj hoj hSj k hkk;simp only[qdD]at hSj⊢
     split
     ·rfl
     ·by_cases hji:j=i
      ·grind
      ·rw[if_neg hji]at hSj;exact hcl j oj hoj hSj k hkk
    ·refine qdt.trans ⟨hkd.1,fun s hs=>hkd.2 s fun e=>?_⟩ hk;have:=List.all_eq_true.1 hp o (by grind);grind [qeB]
    grind [qpG]
theorem qip (hE:qad E C.P) {pin wr:List Nat}(hF:qoA E C pin) {id:Nat}{ops:Array Oper}{d:Bool}{Q:Exit→Act→World→Prop}{σ':St}{c:List Bool}{ds:List Nat}(hp:qmy pin ops.toList=true) (he:qdx E wr ops d σ=some (σ',c,ds)) (hc:qb9 c) (hpc:qti C a.tmps) (h:qK C σ a.tmps w own)
  (hQ:∀a' w' own',qdt pin a a'→qK C σ' a'.tmps w' own'→Q .normal a' w'):(Code.region id ops d).wp C.P Q a w:=by
 unfold qdx at he;split at he;case h_2=>cases he
 rename_i σ1 c1 fs h1;cases d with
 |false=>
  grind [wp_region_list,qmj]
 |true=>
  simp only at he;split at he;case isFalse=>cases he
  rename_i hd;injection he with he;simp only[Prod.mk.injEq]at he;obtain⟨rfl,rfl,rfl⟩:=he;obtain⟨fl,g1,g2,g3,_⟩:=qjv ops.toList h1;have hfs:fs.reverse=fl:=by rw[g1];simp
  rw[hfs]at hd hc;have hsu:=qpS (E:=E) (σ:=σ) (fl:=fl) (ops:=ops.toList) g2.1;refine wp_region_any hE.mixed (qtN hE hF (a0:=a) hp g2 hsu (qpK g2.1 fun b hb=>hc b (zaa _ hb)) hd (fun b hb=>hc b (zab _ hb)) hpc (by grind [qit]) _ _ _ _ own (by simp) (by simp[List.countP_replicate]) (fun i o ho hS=>?_) (qdt.refl _ _) ?_)
  ·simp[Array.getD_eq_getD_getElem?,Array.getElem?_replicate]at hS;grind
  ·have e:qbD (fun i=>(Array.replicate ops.size false).getD i false) 0 (qfd E ops.toList σ fl).1 σ=σ:=by
    have:(fun i=>(Array.replicate ops.size false).getD i false)=fun _=>false:=by
     funext i;simp only[Array.getD_eq_getD_getElem?,Array.getElem?_replicate];split<;>rfl
    rw[this,qhV]
   rw[e];exact h.drew
theorem qix {wr:List Nat}{ops:Array Oper}{d:Bool}{σ':St}{c:List Bool}{ds:List Nat}(he:qdx E wr ops d σ=some (σ',c,ds)):Fr wr σ σ'∧quL σ σ'∧Fr ds σ σ':=by
 grind [qi5,qdx]
theorem qlf (b:Bool) (σ1 σ2:St):(ds:List Nat)→(σ:St)→(qlz b ds σ σ1 σ2).length=σ.length∧∀s,(s∈ds∧s<σ.length→qj (qlz b ds σ σ1 σ2) s=(max (qj σ1 s).1 (qj σ2 s).1+1,qgl b (qj σ1 s).2 (qj σ2 s).2))∧(¬(s∈ds∧s<σ.length)→qj (qlz b ds σ σ1 σ2) s=qj σ s)
 |[],σ=>⟨rfl,fun s=>⟨fun h=>(by cases h.1),fun _=>rfl⟩⟩
 |d::ds,σ=>by
  obtain⟨h1,h2⟩:=qlf b σ1 σ2 ds (σ.set d (max (qj σ1 d).1 (qj σ2 d).1+1,qgl b (qj σ1 d).2 (qj σ2 d).2));grind [qjU,qlz]
theorem qK.join {b:Bool}{ds:List Nat}{σ1 σ2:St}(h:qK C (bif b then σ1 else σ2) tm w own) (h1:Fr ds σ σ1) (h2:Fr ds σ σ2):qK C (qlz b ds σ σ1 σ2) tm w own:=by
 obtain⟨j1,j2⟩:=qlf b σ1 σ2 ds σ;have hf:Fr ds σ (bif b then σ1 else σ2):=by grind
 have zero:∀ {ρ:St}{s:Nat},ρ.length=σ.length→¬s<σ.length→qj ρ s=(0,.undef):=fun {ρ s} hl hs=>by grind [qj]
 refine h.retag (j1.trans hf.1.symm) (fun s=>s∈ds∧s<σ.length) (fun s hs=>?_) (fun s hs=>?_) (fun s m _ hm hb=>?_) (fun s hs hh=>?_)
 ·rw[(j2 s).2 hs];by_cases hd:s∈ds
  ·have hl:¬s<σ.length:=fun hl=>hs ⟨hd,hl⟩;rw[zero rfl hl,zero hf.1 hl]
  ·exact(hf.2 s hd).symm
 ·rw[(j2 s).1 hs];have e:(qj (bif b then σ1 else σ2) s).2=bif b then(qj σ1 s).2 else(qj σ2 s).2:=by grind
  refine⟨?_,fun v hv=>?_⟩
  ·exact(qjd (X:=sit C (bif b then σ1 else σ2) tm w own) b (by rw[←e];exact h.at_ s)).2.1
  grind [qjd]
 ·rw[(j2 m.1).1 hb];have:=h.wf s m hm;grind
 ·rw[(j2 s).1 hs]at hh;have e:(qj (bif b then σ1 else σ2) s).2=bif b then(qj σ1 s).2 else(qj σ2 s).2:=by grind
  rw[e];exact(qjd (X:=sit C (bif b then σ1 else σ2) tm w own) b (by rw[←e];exact h.at_ s)).2.2 hh
theorem qoa {b:Bool}{ds wr:List Nat}{σ1 σ2:St}(h:∀s∈ds,s∈wr):Fr wr σ (qlz b ds σ σ1 σ2):=by
 obtain⟨j1,j2⟩:=qlf b σ1 σ2 ds σ;exact⟨j1,fun s hs=>(j2 s).2 fun hn=>hs (h s hn.1)⟩
end
end Go.Vi
namespace Go.Vi
open Go.RowKit
section
variable {C:Ctx}{E:Env}{σ τ:St}{tm:Array Value}{a:Act}{w w':World}{own:Own}{o:Oper}{p:qdU} [Tabbed E C]
theorem ql5 {wr:List Nat}{ops:Array Oper}:(l:List Oper)→{σ σ':St}→{c c':List Bool}→{fs fs':List qcw}→qdH E wr ops l σ c fs=some (σ',c',fs')→(∀f∈fs,∀s∈f.wr,s∈wr)→∀f∈fs',∀s∈f.wr,s∈wr
 |[],σ,σ',c,c',fs,fs',he,h=>by
  grind [qdH]
 |o::r,σ,σ',c,c',fs,fs',he,h=>by
  simp only[qdH]at he;split at he
  ·cases he
  rename_i g hg;split at he
  ·cases he
  rename_i f hf;split at he;case isFalse=>cases he
  rename_i hu;refine ql5 r he fun f' hf' s hs=>?_;rcases zak.1 hf' with rfl|hf'
  ·obtain⟨u,hm,rfl⟩:=List.mem_map.1 hs;grind
  grind
theorem qiG {wr:List Nat}{ops:Array Oper}{d:Bool}{σ':St}{c:List Bool}{ds:List Nat}(he:qdx E wr ops d σ=some (σ',c,ds)):∀s∈ds,s∈wr:=by
 grind [ql5,qdx]
theorem qsy (hpc:qti C a.tmps) (h:qK C σ a.tmps w own) {c:Operand}{x:Bool}{ow:List Nat}(he:Q.run (qj σ) ((opd E [] 0 c).bind qlE)=some ⟨.bool,x,ow⟩):a.eval c=.bool x:=by
 obtain⟨o1,h1,h2⟩:=Q.ya he;exact q9.bool (qdq h (qF h ⟨hpc,fun q hq=>by cases hq⟩ h1) h2)
theorem qgf:(l:List Nat)→{σ:St}→{own:Own}→qK C σ tm w own→∃own',qK C (qiJ l σ) tm w own'
 |[],_,own,h=>⟨own,h⟩
 |s::l,σ,own,h=>by
  obtain⟨qhw,h1,_⟩:=h.freeze s;exact qgf l h1
theorem qeP {wr:List Nat}:(l:List Nat)→{σ:St}→(∀s∈l,s∈wr)→Fr wr σ (qiJ l σ)
 |[],σ,_=>Fr.refl _ _
 |s::l,σ,h=>by
  have h1:Fr wr σ (qh σ [⟨s,false,(qj σ s).2.freeze⟩]):=qeJ _ fun u hu=>by
   grind
  exact h1.trans (qeP l fun s' hs=>h s' (zaj _ hs))
theorem qrj {σ:St}{own:Own}(s:Nat) (h:qK C σ tm w own):∃own',qK C (qkM σ s) tm w own':=by
 unfold qkM;split
 ·rename_i t x hs;obtain⟨own',h1,_⟩:=h.expose (u:=t) (x:=x) (f:=false) hs rfl (by simp[BC.get,Ty.yv]);grind
 grind
theorem qkg:(l:List Nat)→{σ:St}→{own:Own}→qK C σ tm w own→∃own',qK C (qnE l σ) tm w own'
 |[],_,own,h=>⟨own,h⟩
 |s::l,σ,own,h=>by
  obtain⟨qhw,h1⟩:=qrj s h;exact qkg l h1
theorem qh9 {wr:List Nat}:(l:List Nat)→{σ:St}→(∀s∈l,s∈wr)→Fr wr σ (qnE l σ)
 |[],σ,_=>Fr.refl _ _
 |s::l,σ,h=>by
  have h1:Fr wr σ (qkM σ s):=by
   unfold qkM;split
   ·rename_i t x _;exact qeJ [⟨s,true,.view t x 0⟩] fun u hu=>by
     grind
   ·exact Fr.refl _ _
  exact h1.trans (qh9 l fun s' hs=>h s' (zaj _ hs))
theorem qik {σ1 σ2:St}:(l:List Nat)→∀s∈qlX σ1 σ2 l,s∈l
 |[],s,h=>h
 |x::l,s,h=>by
  simp only[qlX]at h;split at h
  ·rcases zak.1 h with rfl|h
   ·grind
   ·exact zaj _ (qik l s h)
  ·exact zaj _ (qik l s h)
theorem qnw:(l:List (Nat×qex))→{σ:St}→{own:Own}→qK C σ tm w own→∃own',qK C (qtb l σ) tm w own'
 |[],_,own,h=>⟨own,h⟩
 |p::l,σ,own,h=>by
  unfold qtb;split
  ·obtain⟨qhw,h1⟩:=h.refit p.2 p.1;exact qnw l h1
  ·exact qnw l h
theorem qpe {wr:List Nat}: {l:List (Nat×qex)}→{σ:St}→(h:∀q∈l,q.1∈wr)→Fr wr σ (qtb l σ)
 |[],σ,_=>Fr.refl _ _
 |p::l,σ,h=>by
  unfold qtb;have hr:∀σ',Fr wr σ' (qtb l σ'):=fun σ'=>qpe fun q hq=>h q (zaj _ hq);split
  ·have h1:Fr wr σ (qh σ [⟨p.1,false,(qj σ p.1).2.refit p.2⟩]):=qeJ _ fun u hu=>by
    grind
   exact h1.trans (hr _)
  ·exact hr _
theorem qrS {frz:List (Nat×List Nat)}{wr:List Nat}{id:Nat}{ops:Array Oper}{d:Bool}{σ':St}{c:List Bool}{ds:List Nat}(he:regE E frz wr id ops d σ=some (σ',c,ds)):Fr wr σ σ'∧Fr ds σ σ'∧∀s∈ds,s∈wr:=by
 unfold regE at he;split at he
 ·grind [qix,qiG]
 ·rename_i fz _;split at he;case isFalse=>cases he
  rename_i hall;split at he;case h_2=>cases he
  rename_i σ1 c1 d1 h1;injection he with he;simp only[Prod.mk.injEq]at he;obtain⟨rfl,rfl,rfl⟩:=he;obtain⟨g1,_,g3⟩:=qix h1;simp only[zad]at hall;have hsub:∀s∈qeO frz (some id),s∈wr:=fun s hs=>by
   grind
  have hex:∀s∈qeO frz (some (id+2000000000)),s∈qeO frz (some id):=fun s hs=>by
   grind
  refine⟨((qeP _ hsub).trans (qh9 _ fun s hs=>hsub s (hex s hs))).trans g1,((qeP _ fun s hs=>zab _ hs).trans (qh9 _ fun s hs=>zab _ (hex s hs))).trans (g3.mono fun s hs=>zaa _ hs),fun s hs=>?_⟩;grind [qiG]
theorem qsR (hE:qad E C.P) {pin:List Nat}(hF:qoA E C pin) {frz:List (Nat×List Nat)}{wr:List Nat}{id:Nat}{ops:Array Oper}{d:Bool}{Q:Exit→Act→World→Prop}{σ':St}{c:List Bool}{ds:List Nat}(hp:qmy pin ops.toList=true) (he:regE E frz wr id ops d σ=some (σ',c,ds)) (hc:qb9 c) (hpc:qti C a.tmps) (h:qK C σ a.tmps w own)
  (hQ:∀a' w' own',qdt pin a a'→qK C σ' a'.tmps w' own'→Q .normal a' w'):(Code.region id ops d).wp C.P Q a w:=by
 unfold regE at he;split at he
 ·grind [qip]
 ·split at he;case isFalse=>cases he
  split at he;case h_2=>cases he
  rename_i σ1 c1 d1 h1;injection he with he;simp only[Prod.mk.injEq]at he;obtain⟨rfl,rfl,rfl⟩:=he;obtain⟨qhw,hst⟩:=qgf (qeO frz (some id)) h;obtain⟨own2,hst2⟩:=qkg (qeO frz (some (id+2000000000))) hst;grind [qip]
theorem qhQ {frz:List (Nat×List Nat)}{wr:List Nat}:(c:Code)→{σ σ':St}→{ch:List Bool}→{ds:List Nat}→qqX E frz wr c σ=some (σ',ch,ds)→Fr wr σ σ'∧Fr ds σ σ'∧∀s∈ds,s∈wr
 |.skip,σ,σ',ch,ds,he=>by
  grind [Fr.refl,qqX]
 |.region _ ops d,σ,σ',ch,ds,he=>by
  exact qrS he
 |.seq x y,σ,σ',ch,ds,he=>by
  simp only[qqX]at he;split at he;case h_2=>cases he
  rename_i σ1 c1 d1 h1;split at he;case h_2=>cases he
  rename_i σ2 c2 d2 h2;injection he with he;simp only[Prod.mk.injEq]at he;obtain⟨rfl,rfl,rfl⟩:=he;obtain⟨g1,g2,g3⟩:=qhQ x h1;obtain⟨k1,k2,k3⟩:=qhQ y h2;refine⟨g1.trans k1,(g2.mono fun s hs=>zab _ hs).trans (k2.mono fun s hs=>zaa _ hs),fun s hs=>?_⟩;grind
 |.cond c x y,σ,σ',ch,ds,he=>by
  simp only[qqX]at he;split at he;case h_2=>cases he
  split at he;case h_2=>cases he
  rename_i σ1 c1 d1 σ2 c2 d2 h1 h2;injection he with he;simp only[Prod.mk.injEq]at he;obtain⟨rfl,rfl,rfl⟩:=he;obtain⟨g1,g2,g3⟩:=qhQ x h1;obtain⟨k1,k2,k3⟩:=qhQ y h2;have hsub:∀s∈d1++d2,s∈wr:=fun s hs=>by
   grind
  exact⟨qoa hsub,qoa fun s hs=>hs,hsub⟩
 |.label _,_,_,_,_,he=>by cases he
 |.block _ _,_,_,_,_,he=>by cases he
 |.loop _,_,_,_,_,he=>by cases he
 |.exit _,_,_,_,_,he=>by cases he
 |.goto _,_,_,_,_,he=>by cases he
 |.ret,_,_,_,_,he=>by cases he
theorem qpF {b:Bool}{c d:List Bool}(h:qb9 (qpt b c d)):qb9 (bif b then c else d):=by
 unfold qpt at h;split at h
 ·grind
 ·have:=h _ (zah.2 rfl);grind [qnA]
theorem qk6 (hE:qad E C.P) {frz:List (Nat×List Nat)}{pin wr:List Nat}(hF:qoA E C pin):(c:Code)→qhy pin c=true→{σ σ':St}→{ch:List Bool}→{ds:List Nat}→{Q1:Exit→Act→World→Prop}→{a:Act}→{w:World}→{own:Own}→qqX E frz wr c σ=some (σ',ch,ds)→qb9 ch→qti C a.tmps→qK C σ a.tmps w own→
  (∀a' w' own',qdt pin a a'→qK C σ' a'.tmps w' own'→Q1 .normal a' w')→c.wp C.P Q1 a w
 |.skip,hp,σ,σ',ch,ds,Q1,a,w,own,he,_,hpc,h,hQ=>by
  grind [wp_skip,qdt.refl,qqX]
 |.region _ ops d,hp,σ,σ',ch,ds,Q1,a,w,own,he,hc,hpc,h,hQ=>qsR hE hF hp he hc hpc h hQ
 |.seq x y,hp,σ,σ',ch,ds,Q1,a,w,own,he,hc,hpc,h,hQ=>by
  simp only[qqX]at he;split at he;case h_2=>cases he
  rename_i σ1 c1 d1 h1;split at he;case h_2=>cases he
  rename_i σ2 c2 d2 h2;injection he with he;simp only[Prod.mk.injEq]at he;obtain⟨rfl,rfl,rfl⟩:=he;simp only[qhy,zad]at hp;refine wp_seq (qk6 hE hF x hp.1 h1 (fun b hb=>hc b (zab _ hb)) hpc h fun a1 w1 qhw hd1 hst1=>?_);exact qk6 hE hF y hp.2 h2 (fun b hb=>hc b (zaa _ hb)) (hd1.pinC hF hpc) hst1 fun a2 w2 own2 hd2 hst2=>hQ a2 w2 own2 (hd2.trans hd1) hst2
 |.cond c x y,hp,σ,σ',ch,ds,Q1,a,w,own,he,hc,hpc,h,hQ=>by
  simp only[qqX]at he;split at he;case h_2=>cases he
  rename_i b ow hb;split at he;case h_2=>cases he
  rename_i σ1 c1 d1 σ2 c2 d2 h1 h2;injection he with he;simp only[Prod.mk.injEq]at he;obtain⟨rfl,rfl,rfl⟩:=he;have hch:=qpF hc;simp only[qhy,zad]at hp;have f1:=(qhQ x h1).2.1.mono (wr':=d1++d2) fun s hs=>zab _ hs;have f2:=(qhQ y h2).2.1.mono (wr':=d1++d2) fun s hs=>zaa _ hs;refine wp_cond (qsy hpc h hb) ?_;have z1:=f1.trans (qeP (qlX σ1 σ2 (d1++d2)) (qik _));have z2:=f2.trans (qeP (qlX σ2 σ1 (d1++d2)) (qik _));cases b with
  |true=>
   refine qk6 hE hF x hp.1 h1 hch hpc h fun a1 w1 qhw hd1 hst1=>?_;obtain⟨own2,hst2⟩:=qgf (qlX σ1 σ2 (d1++d2)) hst1;exact hQ a1 w1 own2 hd1 (qK.join (b:=true) hst2 z1 z2)
  |false=>
   refine qk6 hE hF y hp.2 h2 hch hpc h fun a1 w1 qhw hd1 hst1=>?_;obtain⟨own2,hst2⟩:=qgf (qlX σ2 σ1 (d1++d2)) hst1;exact hQ a1 w1 own2 hd1 (qK.join (b:=false) hst2 z1 z2)
 |.label _,_,_,_,_,_,_,_,_,_,he,_,_,_,_=>by cases he
 |.block _ _,_,_,_,_,_,_,_,_,_,he,_,_,_,_=>by cases he
 |.loop _,_,_,_,_,_,_,_,_,_,he,_,_,_,_=>by cases he
 |.exit _,_,_,_,_,_,_,_,_,_,he,_,_,_,_=>by cases he
 |.goto _,_,_,_,_,_,_,_,_,_,he,_,_,_,_=>by cases he
 |.ret,_,_,_,_,_,_,_,_,_,he,_,_,_,_=>by cases he
theorem qfi {R:Type}{c:List Bool}{r:Option R}{x:R}(h:andThen c r=some x):qb9 c∧r=some x:=by
 grind [qnA,andThen,qvb]
structure KOk {R:Type}(C:Ctx) (pin:List Nat) (k:K R) (r:R) (wr:List Nat) (σ:St) (ds:Act) (Q1:Exit→Act→World→Prop):Prop where
 n:∀σ' a' w' own',Fr wr σ σ'→qdt pin ds a'→qK C σ' a'.tmps w' own'→k.n σ'=some r→Q1 .normal a' w'
 e:∀i σ' a' w' own',Fr wr σ σ'→qdt pin ds a'→qK C σ' a'.tmps w' own'→k.e i σ'=some r→Q1 (.exit i) a' w'
 r:∀σ' a' w' own',Fr wr σ σ'→qdt pin ds a'→qK C σ' a'.tmps w' own'→k.r σ'=some r→Q1 .ret a' w'
theorem KOk.fr {R:Type}{pin:List Nat}{k:K R}{r:R}{wr wr':List Nat}{ds ds':Act}{Q1:Exit→Act→World→Prop}(h:KOk C pin k r wr σ ds Q1) (hd:qdt pin ds ds') (hs:∀s∈wr',s∈wr) (hf:Fr wr σ τ):KOk C pin k r wr' τ ds' Q1:=
 ⟨fun σ' a' w' own' f g=>h.n σ' a' w' own' (hf.trans (f.mono hs)) (g.trans hd),fun i σ' a' w' own' f g=>h.e i σ' a' w' own' (hf.trans (f.mono hs)) (g.trans hd),fun σ' a' w' own' f g=>h.r σ' a' w' own' (hf.trans (f.mono hs)) (g.trans hd)⟩
theorem qg9 {σ:St}{s v:Nat}{a:AV}(h:qj σ s=(v,a)) (ha:a≠ .undef):σ.set s (v,a)=σ:=by
 grind [List.set_getElem_self,qj]
theorem qmo {R:Type}{tag:Nat}:(n:Nat)→(ps:List qQ)→(k:List qQ→Option R)→qlc tag n ps k=k ps
 |0,p::ps,k=>by unfold qlc;rw[qdn]
 |n+1,p::ps,k=>by unfold qlc;exact qmo n ps _
 |0,[],_=>rfl
 |_+1,[],_=>rfl
theorem qsu:(ps:List qQ)→qR (ksOf ps) (toHd ps)=ps
 |[]=>rfl
 |p::ps=>congrArg (p:: ·) (qsu ps)
theorem qqZ {R:Type}{tag:Nat}(ps:List qQ) (k:List qQ→Option R):qpD tag ps k=k ps:=by
 unfold qpD;rw[qdn,qsu]
theorem qbQ {R:Type}{tag:Nat}:(l:List Nat)→(σ:St)→(k:St→Option R)→qdp tag l σ k=k σ
 |[],_,_=>rfl
 |s::r,σ,k=>by
  unfold qdp;split
  ·split
   ·rename_i v ps h;split
    ·rw[qqZ,qg9 h (fun h=>by cases h)];exact qbQ r σ k
    ·rw[qmo,qg9 h (fun h=>by cases h)];exact qbQ r σ k
   ·exact qbQ r σ k
  split
  ·rename_i v t x h;rw[qak,qg9 h (fun h=>by cases h)];exact qbQ r σ k
  ·rename_i v et e xs h;rw[qak,qg9 h (fun h=>by cases h)];exact qbQ r σ k
  ·rename_i v t x h;rw[qak,qg9 h (fun h=>by cases h)];exact qbQ r σ k
  ·rename_i v t x h;rw[qak,qg9 h (fun h=>by cases h)];exact qbQ r σ k
  ·exact qbQ r σ k
theorem qpu (hE:qad E C.P) {N:Nat}{anns:qog}{R:Type}{pin:List Nat}{r:R}(hF:qoA E C pin) (c:Code):qhy pin c=true→∀ {wr:List Nat}{σ:St}{k:K R}{Q1:Exit→Act→World→Prop}{a:Act}{w:World}{own:Own},
  qnJ E N anns c wr σ k=some r→qti C a.tmps→qK C σ a.tmps w own→KOk C pin k r wr σ a Q1→c.wp C.P Q1 a w:=by
 induction c with
 |skip=>intro hp wr σ k Q1 a w own he hpc h hk;exact wp_skip (hk.n σ a w own (Fr.refl _ _) (qdt.refl _ _) h he)
 |region id ops d=>
  intro hp wr σ k Q1 a w own he hpc h hk;simp only[qnJ,qbQ]at he;split at he;case h_2=>cases he
  rename_i σ1 c1 d1 h1;obtain⟨hc,he⟩:=qfi he;exact qsR hE hF hp h1 hc hpc h fun a1 w1 qhw hd1 hst1=>hk.n _ a1 w1 qhw (qrS h1).1 hd1 hst1 he
 |seq x y ihx ihy=>
  intro hp wr σ k Q1 a w own he hpc h hk;simp only[qhy,zad]at hp;refine wp_seq (ihx hp.1 he hpc h ⟨fun σ' a' w' own' f hd hst he'=>?_,fun i σ' a' w' own' f hd hst he'=>hk.e i σ' a' w' own' f hd hst he',fun σ' a' w' own' f hd hst he'=>hk.r σ' a' w' own' f hd hst he'⟩);exact ihy hp.2 he' (hd.pinC hF hpc) hst (hk.fr hd (fun s hs=>hs) f)
 |cond c x y ihx ihy=>
  intro hp wr σ k Q1 a w own he hpc h hk;simp only[qnJ,qbQ]at he;cases hamb:qu6 c σ with
  |some wm=>
   obtain⟨w0,m⟩:=wm;simp only[qhy,zad]at hp;obtain⟨b,hev,hbm⟩:∃b,a.eval c=.bool b∧(b=w0→m=true):=by
    unfold qu6 at hamb;split at hamb;case h_2=>cases hamb
    rename_i t;split at hamb;case h_2=>cases hamb
    rename_i w1 m1 hat;injection hamb with hamb;injection hamb with e1 e2;subst e1;subst e2;have:=h.at_ t;rw[hat]at this;obtain⟨_,b,h1,h2⟩:=this;exact⟨b,h1,h2⟩
   grind [wp_cond,qnN]
  |none=>
  simp only[hamb]at he;split at he;case h_2=>cases he
  rename_i b ow hb;split at he
  ·split at he;case h_2=>cases he
   rename_i σ1 c1 d1 h1;obtain⟨hc,he⟩:=qfi he;exact qk6 hE hF (.cond c x y) hp h1 hc hpc h fun a1 w1 qhw hd1 hst1=>hk.n _ a1 w1 qhw (qhQ _ h1).1 hd1 hst1 he
  ·simp only[qhy,zad]at hp;refine wp_cond (qsy hpc h hb) ?_;grind
 |block id x ih=>
  intro hp wr σ k Q1 a w own he hpc h hk;refine wp_block (ih hp he hpc h ⟨fun σ' a' w' own' f hd hst he'=>hk.n σ' a' w' own' f hd hst he',fun i σ' a' w' own' f hd hst he'=>?_,fun σ' a' w' own' f hd hst he'=>hk.r σ' a' w' own' f hd hst he'⟩);simp only at he';by_cases hi:i=id
  ·rw[if_pos hi]at he';subst hi;simpa[Exit.inBlock]using hk.n σ' a' w' own' f hd hst he'
  ·rw[if_neg hi]at he';simpa[Exit.inBlock,hi]using hk.e i σ' a' w' own' f hd hst he'
 |exit id=>intro hp wr σ k Q1 a w own he hpc h hk;exact wp_exit (hk.e id σ a w own (Fr.refl _ _) (qdt.refl _ _) h he)
 |ret=>intro hp wr σ k Q1 a w own he hpc h hk;exact wp_ret (hk.r σ a w own (Fr.refl _ _) (qdt.refl _ _) h he)
 |loop x ih=>
  intro hp wr σ k Q1 a w own he hpc h hk;simp only[qnJ,qbQ]at he;split at he;case h_2=>cases he
  rename_i A hA;split at he;case isFalse=>cases he
  rename_i hcond;simp only[zad]at hcond;obtain⟨⟨c1,c2⟩,c3⟩:=hcond;split at he;case h_2=>cases he
  rename_i p0 hp0;have hsub:∀s∈A.wr,s∈wr:=fun s hs=>by
   grind
  have hlive:∀q∈A.live,q.1∈A.wr:=fun q hq=>by
   grind
  have hn:=qcs c3;obtain⟨qvx,h0⟩:=qnw A.live h;refine wp_loop_ghost (fun n a' w'=>∃q own',qK C (qgi A σ q) a'.tmps w' own'∧qdt pin a a'∧qaE n (fun ih p=>qnJ E N anns x A.wr (qgi A σ p) { k with n:=fun σ'=>match qph A.live (qtb A.live σ')with
     |some q=>ih q
     |none=>none }) q=some r) N ⟨p0,qvx,qK.head (τ:=qtb A.live σ) h0 hlive hn h.wf (qpe hlive) hp0,qdt.refl _ _,he⟩ ?_
  rintro n a1 w1 ⟨q,qhw,hst,hd1,hit⟩;cases n with
  |zero=>cases hit
  |succ n=>
   have hfr:=qod (σ:=σ) hlive hn q;refine ih hp hit (hd1.pinC hF hpc) hst ⟨fun σ' a' w' own' f hd hst' he'=>?_,fun i σ' a' w' own' f hd hst' he'=>?_,fun σ' a' w' own' f hd hst' he'=>?_⟩
   ·simp only at he';split at he';case h_2=>cases he'
    rename_i q' hq';obtain⟨own2,hst2⟩:=qnw A.live hst';exact⟨n,Nat.lt_succ_self n,q',own2,qK.head (τ:=qtb A.live σ') hst2 hlive hn h.wf ((hfr.trans f).trans (qpe hlive)) hq',hd.trans hd1,he'⟩
   ·exact hk.e i σ' a' w' own' ((hfr.trans f).mono hsub) (hd.trans hd1) hst' he'
   ·exact hk.r σ' a' w' own' ((hfr.trans f).mono hsub) (hd.trans hd1) hst' he'
 |_=>intro hp wr σ k Q1 a w own he hpc h hk;cases he
end
end Go.Vi
