/- slices.Insert on a row of the call's own: walked once. -/
import Derived.Test.YtdiobaoelhdkoaaProg
import Derived.Test.YtdiobaoelhdkoaaViXE
import Derived.WalkKit
import Derived.Tactics
import Derived.Tactics2
import Derived.StillTactics
import Derived.OwnWalk
import Derived.Maps.AppendAt
import Derived.Shelf.RegionOpenPlain
import Derived.Lib.AppendZerosOnto
import Derived.Lib.Overlaps
import Derived.Laws.Externs
import Derived.KernelRfl
import Derived.IntWalk
set_option linter.unusedVariables false
set_option linter.unusedSimpArgs false
set_option linter.unnecessarySimpa false
set_option linter.unusedSectionVars false
set_option linter.unusedVariables false
open Array renaming length_toList → zaG
open List renaming append_assoc → zau, append_nil → zaO, drop_of_length_le → zaI, eq_nil_of_length_eq_zero → zaz, getElem?_drop → zav, getElem?_take → zap, length_append → zag, length_drop → zal, length_take → zae, nil_append → zaR, take_append_drop → zay, take_append_of_le_length → zas, take_of_length_le → zan
open Nat renaming le_refl → zax, min_eq_left → zaQ, zero_add → zaP, zero_le → zaD
namespace Go.Proofs.Ytdiobaoelhdkoaa.Ins_Entry
open Go.RowKit Go.Vi
theorem qop:(Try.prog.info? 45).map (fun i=>(i.zero,i.size,i.bytes))=some (some (.agg #[.slice none 0 0,.int .i64 0]),2,32):=by kernel_rfl
theorem qiK:(Try.prog.info? 45).map (·.size)=some 2:=by kernel_rfl
theorem qdh (w:World) (g vb m vc lb cb ob:Nat) (cur vcur:Array Value) (t1 t2:TypeId) (hg:w.heap[g]? =some (.cells cur t1 (0,0))) (hv:w.heap[vb]? =some (.cells vcur t2 (0,0))) (hne:vb≠g) (hpos:0<cur.size):
  (callFunc 57 #[.slice (some ⟨vb,0,none⟩) m vc,.slice (some ⟨g,ob,none⟩) lb cb]).run Try.prog w=.ok (.value (.bool false)) w:=by
 rw[run_callFunc_extern Try.func57 (by kernel_rfl) (by kernel_rfl) (by kernel_rfl) (e:=Extern.SlicesOverlaps.overlaps #[29,29] #[4]) (by kernel_rfl),
  Lib.run_overlaps_apart w 29 4 45 Try.underlying29 2 Try.sizeOf45 ⟨vb,0,none⟩ ⟨g,ob,none⟩ m vc lb cb hne t2 t1 vcur.size cur.size (by simp[World.shape?,hv]) (by simp[World.shape?,hg]) (by omega) (by simp[World.frozen?,hv]) (by simp[World.frozen?,hv])]
 rfl
set_option maxHeartbeats 4000000 in
set_option maxRecDepth 100000 in
theorem qiM (w:World) (ao:Option Addr) (n c i:Nat) (vv:Value) (hvv:∃a k,vv=.slice a 0 k) (hi:i≤n) (hnc:n≤c) (hnil:ao=none→n=0):
  Calls Try.prog 45 #[.slice ao n c,.int .i64 i,vv] w fun e w'=>e=.returned (.slice ao n c)∧w'=w:=by
 obtain⟨a,k,rfl⟩:=hvv;have h1:(0:Int)≤(i:Int):=Int.natCast_nonneg _;have h2:(i:Int)≤(n:Int):=by omega
 go_enter Try.func45,Try.ntmps45;cases ao with
 |none=>
  obtain rfl:n=0:=hnil rfl;obtain rfl:i=0:=by omega
  go_wp2;all_goals (go_ret;exact⟨rfl,rfl⟩)
 |some ad=>
  obtain⟨b,o,s⟩:=ad;go_wp2;all_goals (go_ret;exact⟨rfl,rfl⟩)
theorem qei {w:World}{e sz:Nat}{v:Value}{n:Nat}{xs:List Value}(h:w.ownsRow 0 e sz v n xs):∃ao n' c,v=.slice ao n' c:=by
 rcases h.2 with⟨h,_⟩|⟨g,cap,cur,h,_⟩<;>exact⟨_,_,_,h⟩
set_option maxHeartbeats 4000000 in
set_option maxRecDepth 100000 in
theorem qkp (w:World) (v:Value) (n m vb vc:Nat) (xs vs:List Value) (hown:w.ownsRow 0 45 2 v n xs) (vcur:Array Value) (hv:w.heap[vb]? =some (.cells vcur 45 (0,0))) (hvs:vcur.toList.take (m*2)=vs) (hvl:m*2≤vcur.size) (hm:0<m) (hbig:(n+m)*32≤140737488355328) (h2:∀u∈vs,u.oneCell'=true):
  Calls Try.prog 45 #[v,.int .i64 n,.slice (some ⟨vb,0,none⟩) m vc] w fun e w'=>∃v',e=.returned v'∧w'.ownsRow 0 45 2 v' (n+m) (xs++vs)∧w.grownBy w' v.ownBlock∧(v'.ownBlock=v.ownBlock∨v'.ownBlock=some w.heap.size):=by
 obtain⟨i0,hi0,hz0,hzs,hzb⟩:=info_parts qop;have hz1:¬((m:Int)=0):=by omega
 have hlen:vs.length=m*2:=by rw[←hvs,zae,zaG];omega
 have hnews:∀j u,vs[j]? =some u→w.cell? ((⟨vb,0,none⟩:Addr).add j)=some u:=fun j u hj=>by
  rw[←hvs,zap]at hj;split at hj;case isFalse=>cases hj
  rw[qx,zaP];simp only[World.cell?,hv];simpa using hj
 have hm63:n+m≤maxLen:=by unfold maxLen;omega
 obtain⟨ao,n',c,rfl,rfl⟩:∃ao n' c,v=.slice ao n' c∧n'=n:=by
  rcases hown.2 with⟨h,h0⟩|⟨g,cap,cur,h,_⟩
  ·exact⟨_,_,_,h,h0.symm⟩
  ·exact⟨_,_,_,h,rfl⟩
 go_enter Try.func45,Try.ntmps45;have tac:∀(K:Prop),K→K:=fun _ h=>h;rcases hown.2 with⟨h,h0⟩|⟨g,cap,cur,h,_⟩
 ·injection h with e1 e2 e3;subst e1;subst e3;subst h0;go_wp2_with (at_builtin;refine wpList_append_own_at _ rfl _ _ 29 rfl 0 45 i0 _ 2 32 Try.underlying29 hi0 hz0 hzs hzb rfl (by decide) _ _ _ rfl hown ⟨vb,0,none⟩ m vc vs rfl hlen hnews h2 hm63 hbig (zaD _) ?_);intro v' w' k1 k2 _ k4;obtain⟨ao',n'',c',rfl⟩:=qei k1;go_wp2;go_ret;exact⟨_,rfl,by rw[zaP];exact k1,k2,k4⟩
 ·injection h with e1 e2 e3;subst e1;subst e3;have h1:(0:Int)≤(n':Int):=Int.natCast_nonneg _;go_wp2_with (at_builtin;refine wpList_append_own_at _ rfl _ _ 29 rfl 0 45 i0 _ 2 32 Try.underlying29 hi0 hz0 hzs hzb rfl (by decide) _ _ _ rfl hown ⟨vb,0,none⟩ m vc vs rfl hlen hnews h2 hm63 hbig (zaD _) ?_);all_goals (intro v' w' k1 k2 _ k4)
  all_goals (obtain⟨ao',n'',c',rfl⟩:=qei k1)
  all_goals go_wp2
  all_goals (go_ret;exact⟨_,rfl,k1,k2,k4⟩)
set_option maxHeartbeats 4000000 in
set_option maxRecDepth 100000 in
theorem qgE (w:World) (g n c i vb m vc:Nat) (cur vcur:List Value) (hg:w.heap[g]? =some (.cells cur.toArray 45 (0,0))) (hv:w.heap[vb]? =some (.cells vcur.toArray 45 (0,0))) (hcl:cur.length=c*2) (hvl:m*2≤vcur.length) (hcm:c≤maxLen) (hne:vb≠g) (hi:i<n) (hm:0<m) (hroom:n+m≤c)
  (h1:∀u∈cur.take (n*2),u.oneCell'=true) (h2:∀u∈vcur.take (m*2),u.oneCell'=true):
  Calls Try.prog 45 #[.slice (some ⟨g,0,none⟩) n c,.int .i64 i,.slice (some ⟨vb,0,none⟩) m vc] w fun e w'=>e=.returned (.slice (some ⟨g,0,none⟩) (n+m) c)∧
   (∃cur':List Value,w'.heap[g]? =some (.cells cur'.toArray 45 (0,0))∧cur'.length=c*2∧cur'.take ((n+m)*2)=cur.take (i*2)++vcur.take (m*2)++(cur.take (n*2)).drop (i*2))∧qaA (fun b=>b=g) w w':=by
 unfold maxLen at hcm;have hz1:¬((m:Int)=0):=by omega
 have hz2:¬((i:Int)=(n:Int)):=by omega
 obtain⟨cs,hcs⟩:∃cs,cs=(cur.take (n*2)).drop (i*2):=⟨_,rfl⟩;obtain⟨vs,hvs⟩:∃vs,vs=vcur.take (m*2):=⟨_,rfl⟩;have hcsl:cs.length=(n-i)*2:=by rw[hcs,zal,zae];omega
 have hvsl:vs.length=m*2:=by rw[hvs,zae];omega
 obtain⟨A1,hA1⟩:∃A1,A1=cur.take ((i+m)*2)++cs++cur.drop ((i+m)*2+cs.length):=⟨_,rfl⟩;have hA1l:A1.length=c*2:=by rw[hA1];simp only[zag,zae,zal];omega
 obtain⟨A2,hA2⟩:∃A2,A2=A1.take (i*2)++vs++A1.drop (i*2+vs.length):=⟨_,rfl⟩;have hA2l:A2.length=c*2:=by rw[hA2];simp only[zag,zae,zal];omega
 have hov:∀ob lb cb,(callFunc 57 #[.slice (some ⟨vb,0,none⟩) m vc,.slice (some ⟨g,ob,none⟩) lb cb]).run Try.prog w=.ok (.value (.bool false)) w:=fun ob lb cb=>qdh w g vb m vc lb cb ob _ _ _ _ hg hv hne (by simp;omega);have hcp1:∀ty o so dl dc sl sc,o=(i+m)*2→so=i*2→Nat.min sl dl=n-i→(Builtin.copy_ #[29,29] ty #[.slice (some ⟨g,o,none⟩) dl dc,.slice (some ⟨g,so,none⟩) sl sc]).run Try.prog w.drew=.ok (goInt (Nat.min sl dl)) (w.drew.setRow g A1.toArray):=fun ty o so dl dc sl sc ho hso hmin=>by
  subst ho hso;rw[hA1];refine qaP w.drew _ _ ty 45 2 g _ dl dc _ sl sc cur _ cs Try.underlying29 qiK hg (by rw[hmin,hcsl]) (fun j u hj=>?_) (by omega) (fun u hu=>h1 u (by rw[hcs]at hu;exact List.mem_of_mem_drop hu));rw[hcs,zav,zap]at hj;split at hj;case isFalse=>cases hj
  rw[qx];show w.cell? _=_;simp only[World.cell?,hg];simpa using hj
 have hcp2:∀ty o dl dc,o=i*2→Nat.min m dl=m→(Builtin.copy_ #[29,29] ty #[.slice (some ⟨g,o,none⟩) dl dc,.slice (some ⟨vb,0,none⟩) m vc]).run Try.prog (w.drew.setRow g A1.toArray)=.ok (goInt (Nat.min m dl)) ((w.drew.setRow g A1.toArray).setRow g A2.toArray):=fun ty o dl dc ho hmin=>by
  subst ho;rw[hA2];refine qaP (w.drew.setRow g A1.toArray) _ _ ty 45 2 g _ dl dc _ m vc A1 _ vs Try.underlying29 qiK (qax (w:=w.drew) hg _) (by rw[hmin,hvsl]) (fun j u hj=>?_) (by omega) (fun u hu=>h2 u (by rw[hvs]at hu;exact hu));rw[hvs,zap]at hj;split at hj;case isFalse=>cases hj
  rw[qx,zaP];simp only[World.cell?,setRow_other w.drew g vb _ hne];show(match w.heap[vb]? with|some (.cells c _ _)=>c[j]? |_=>none)=_;rw[hv];simpa using hj
 have hw1:IntKind.i64.wrap ((i:Int)+(m:Int))=(i:Int)+(m:Int):=IntWalk.i64_in _ (by omega);have hw2:IntKind.i64.wrap ((n:Int)+(m:Int))=(n:Int)+(m:Int):=IntWalk.i64_in _ (by omega);have hb0:(0:Int)≤(i:Int):=Int.natCast_nonneg _;have hb1:(0:Int)≤(i:Int)+(m:Int):=by omega
 have hb2:(0:Int)≤(n:Int)+(m:Int):=by omega
 have hin:i≤n:=by omega
 have htn:((i:Int)+(m:Int)).toNat=i+m:=by omega
 have htn2:((n:Int)+(m:Int)).toNat=n+m:=by omega
 have hb3:(i:Int)≤(n:Int)+(m:Int):=by omega
 have hb4:¬(c=i):=by omega
 have hb5:¬(c=i+m):=by omega
 have hb6:¬((c:Int)<(n:Int)+(m:Int)):=by omega
 have hb7:(n:Int)+(m:Int)≤(c:Int):=by omega
 have mixed:Try.prog.follows Departure.mixedOrders=true:=by kernel_rfl
 have HH:Hid (cs=(cur.take (n*2)).drop (i*2)∧vs=vcur.take (m*2)∧A1=cur.take ((i+m)*2)++cs++cur.drop ((i+m)*2+cs.length)∧A2=A1.take (i*2)++vs++A1.drop (i*2+vs.length)):=⟨hcs,hvs,hA1,hA2⟩;clear hcs hvs hA1 hA2;have hE:=fun ty=>hcp2 ty (i*2) (n+m-i) (c-i) (by omega) (by simp only[Nat.min_def];split<;>omega);go_enter Try.func45,Try.ntmps45;go_wp2_with (simp only[hov]);go_region_law_o (refine qc8 rfl _ _ 29 29 rfl (.slice (some ⟨g,(i+m)*2,none⟩) (n+m-(i+m)) (c-(i+m))) (.slice (some ⟨g,i*2,none⟩) (n+m-i) (c-i)) (by simp[Act.eval,Act.put]) (by simp[Act.eval,Act.put]) (hcp1 3 ((i+m)*2) (i*2) (n+m-(i+m)) (c-(i+m)) (n+m-i) (c-i) (by omega) (by omega) (by simp only[Nat.min_def];split<;>omega)) ?_);go_wp2;go_ret;obtain⟨hcs,hvs,hA1,hA2⟩:=HH;refine⟨rfl,⟨A2,qax (qax (w:=w.drew) hg _) _,hA2l,?_⟩,(((qaA.refl (fun b=>b=g) w).drew).setRow rfl _).setRow rfl _⟩;have f1:A1.take (i*2)=cur.take (i*2):=by
  rw[hA1,zau,zas (by rw[zae];omega),List.take_take,zaQ (by omega)]
 have f2:A1.drop (i*2+vs.length)=cs++cur.drop ((i+m)*2+cs.length):=by
  have e:i*2+vs.length=(i+m)*2:=by omega
  rw[hA1,e,zau,List.drop_append_of_le_length (by rw[zae];omega),zaI (by rw[zae];omega),zaR]
 have f3:(cur.take (i*2)).length=i*2:=by rw[zae];omega
 rw[hA2,f1,f2,←hcs,←hvs,←zau,zas (by simp only[zag,f3];omega),zan (by simp only[zag,f3];omega)]
set_option maxHeartbeats 4000000 in
set_option maxRecDepth 100000 in
theorem qiy (w:World) (g n c i vb m vc:Nat) (cur vcur:List Value) (hg:w.heap[g]? =some (.cells cur.toArray 45 (0,0))) (hv:w.heap[vb]? =some (.cells vcur.toArray 45 (0,0))) (hcl:cur.length=c*2) (hvl:m*2≤vcur.length) (hcm:c≤maxLen) (hnc:n≤c) (hi:i<n) (hm:0<m) (hroom:c<n+m) (hbig:(n+m)*32≤140737488355328)
  (h1:∀u∈cur.take (n*2),u.oneCell'=true) (h2:∀u∈vcur.take (m*2),u.oneCell'=true):
  Calls Try.prog 45 #[.slice (some ⟨g,0,none⟩) n c,.int .i64 i,.slice (some ⟨vb,0,none⟩) m vc] w fun e w'=>∃c',e=.returned (.slice (some ⟨w.heap.size,0,none⟩) (n+m) c')∧
   (∃cur':List Value,w'.heap[w.heap.size]? =some (.cells cur'.toArray 45 (0,0))∧cur'.length=c'*2∧n+m≤c'∧c'≤maxLen∧cur'.take ((n+m)*2)=cur.take (i*2)++vcur.take (m*2)++(cur.take (n*2)).drop (i*2))∧qaA (fun _=>False) w w':=by
 obtain⟨i0,hi0,hz0,hzs,hzb⟩:=info_parts qop;unfold maxLen at hcm;have hz1:¬((m:Int)=0):=by omega
 have hz2:¬((i:Int)=(n:Int)):=by omega
 have hgl:g<w.heap.size:=(Array.getElem?_eq_some_iff.1 hg).1;have hvbl:vb<w.heap.size:=(Array.getElem?_eq_some_iff.1 hv).1;obtain⟨G,hG⟩:∃G,G=grownCap w (n+m) c 45:=⟨_,rfl⟩;have hGn:n+m≤G:=by rw[hG];exact grownCap_ge w _ _ _
 have hG63:G≤maxLen:=by rw[hG];exact grownCap_le_maxLen w (n+m) c 45 (by unfold maxLen;omega)
 obtain⟨cs,hcs⟩:∃cs,cs=(cur.take (n*2)).drop (i*2):=⟨_,rfl⟩;obtain⟨vs,hvs⟩:∃vs,vs=vcur.take (m*2):=⟨_,rfl⟩;have hcsl:cs.length=(n-i)*2:=by rw[hcs,zal,zae];omega
 have hvsl:vs.length=m*2:=by rw[hvs,zae];omega
 have hold:(Builtin.firstCells i0.size i (.slice (some ⟨g,0,none⟩) i c)).run Try.prog w.drew=.ok (cur.take (i*2)).toArray w.drew:=by
  rw[hzs];refine run_firstCells_some w.drew 2 i ⟨g,0,none⟩ i c (cur.take (i*2)) (by rw[zae];omega) (fun j u hj=>?_);rw[zap]at hj;split at hj;case isFalse=>cases hj
  rw[qx,zaP];show w.cell? _=_;simp only[World.cell?,hg];simpa using hj
 obtain⟨ROW,hROW⟩:∃ROW:List Value,ROW=cur.take (i*2)++(Builtin.zeroCells (.agg #[.slice none 0 0,.int .i64 0]:Value).cells (n+m-i)).toList++(Builtin.zeroCells (.agg #[.slice none 0 0,.int .i64 0]:Value).cells (G-(n+m))).toList:=⟨_,rfl⟩;have hik:i+(n+m-i)=n+m:=by omega
 have hrz:∀ty,(Builtin.append_ #[29,3] ty #[.slice (some ⟨g,0,none⟩) i c,.int .i64 ((n:Int)+(m:Int)-(i:Int))]).run Try.prog w=.ok (.slice (some ⟨w.heap.size,0,none⟩) (n+m) G) (w.drew.alloc (.cells ROW.toArray 45)):=fun ty=>by
  have h:=Lib.run_append_grow_zeros w 29 3 ty 45 i0 _ .i64 .i64 Try.underlying29 Try.underlying3 hi0 hz0 (some ⟨g,0,none⟩) i c (cur.take (i*2)) hold (n+m-i) (by omega) (by rw[hzs];decide) (by omega) (by omega) (by rw[hzb];omega) (by rw[hzb,hik];exact growslice_fits hroom hbig);rw[hik]at h;rw[show(n:Int)+(m:Int)-(i:Int)=((n+m-i:Nat):Int) by omega,h,hROW,hG];congr 4;apply Array.ext';simp only[Array.toList_append]
 have hRl:ROW.length=G*2:=by
  have hzc:(.agg #[.slice none 0 0,.int .i64 0]:Value).cells.size=2:=rfl;rw[hROW];simp only[zag,zae,zaG,Builtin.zeroCells,Array.size_map,Array.size_range,hzc];omega
 obtain⟨W1,hW1⟩:∃W1,W1=w.drew.alloc (.cells ROW.toArray 45):=⟨_,rfl⟩;have hWN:W1.heap[w.heap.size]? =some (.cells ROW.toArray 45 (0,0)):=by rw[hW1];exact heap_alloc_new w.drew _
 have hWo:∀k,k<w.heap.size→W1.heap[k]? =w.heap[k]? :=fun k hk=>by rw[hW1];exact heap_alloc_old w.drew (.cells ROW.toArray 45) (r:=k) hk
 have hKW:qaA (fun _=>False) w W1:=by rw[hW1];exact(qaA.refl _ w).drew.trans (qaA.alloc _ _ _)
 obtain⟨A1,hA1⟩:∃A1,A1=ROW.take (i*2)++vs++ROW.drop (i*2+vs.length):=⟨_,rfl⟩;have hA1l:A1.length=G*2:=by rw[hA1];simp only[zag,zae,zal];omega
 obtain⟨A2,hA2⟩:∃A2,A2=A1.take ((i+m)*2)++cs++A1.drop ((i+m)*2+cs.length):=⟨_,rfl⟩;have hA2l:A2.length=G*2:=by rw[hA2];simp only[zag,zae,zal];omega
 have hcp1:∀ty o dl dc,o=i*2→Nat.min m dl=m→(Builtin.copy_ #[29,29] ty #[.slice (some ⟨w.heap.size,o,none⟩) dl dc,.slice (some ⟨vb,0,none⟩) m vc]).run Try.prog W1=.ok (goInt (Nat.min m dl)) (W1.setRow w.heap.size A1.toArray):=fun ty o dl dc ho hmin=>by
  subst ho;rw[hA1];refine qaP W1 _ _ ty 45 2 w.heap.size _ dl dc _ m vc ROW _ vs Try.underlying29 qiK hWN (by rw[hmin,hvsl]) (fun j u hj=>?_) (by omega) (fun u hu=>h2 u (by rw[hvs]at hu;exact hu));rw[hvs,zap]at hj;split at hj;case isFalse=>cases hj
  rw[qx,zaP];simp only[World.cell?,hWo vb hvbl,hv];simpa using hj
 have hcp2:∀ty o so dl dc sl sc,o=(i+m)*2→so=i*2→Nat.min sl dl=n-i→(Builtin.copy_ #[29,29] ty #[.slice (some ⟨w.heap.size,o,none⟩) dl dc,.slice (some ⟨g,so,none⟩) sl sc]).run Try.prog (W1.setRow w.heap.size A1.toArray).drew=.ok (goInt (Nat.min sl dl)) ((W1.setRow w.heap.size A1.toArray).drew.setRow w.heap.size A2.toArray):=fun ty o so dl dc sl sc ho hso hmin=>by
  subst ho hso;rw[hA2];refine qaP (W1.setRow w.heap.size A1.toArray).drew _ _ ty 45 2 w.heap.size _ dl dc _ sl sc A1 _ cs Try.underlying29 qiK (qax hWN _) (by rw[hmin,hcsl]) (fun j u hj=>?_) (by omega) (fun u hu=>h1 u (by rw[hcs]at hu;exact List.mem_of_mem_drop hu));rw[hcs,zav,zap]at hj;split at hj;case isFalse=>cases hj
  rw[qx];show(W1.setRow w.heap.size A1.toArray).cell? _=_;simp only[World.cell?,setRow_other W1 w.heap.size g _ (by omega),hWo g hgl,hg];simpa using hj
 have hw1:IntKind.i64.wrap ((i:Int)+(m:Int))=(i:Int)+(m:Int):=IntWalk.i64_in _ (by omega);have hw2:IntKind.i64.wrap ((n:Int)+(m:Int))=(n:Int)+(m:Int):=IntWalk.i64_in _ (by omega);have hw3:IntKind.i64.wrap ((n:Int)+(m:Int)-(i:Int))=(n:Int)+(m:Int)-(i:Int):=IntWalk.i64_in _ (by omega);unfold maxLen at hG63;have hb0:(0:Int)≤(i:Int):=Int.natCast_nonneg _;have hb1:(0:Int)≤(i:Int)+(m:Int):=by omega
 have hb2:(0:Int)≤(n:Int)+(m:Int):=by omega
 have hin:i≤n:=by omega
 have hic:(i:Int)≤(n:Int):=by omega
 have htn:((i:Int)+(m:Int)).toNat=i+m:=by omega
 have hb3:(i:Int)≤(n:Int)+(m:Int):=by omega
 have hb4:¬(c=i):=by omega
 have hb5:¬(G=i+m):=by omega
 have hb6:¬(G=i):=by omega
 have hb7:(c:Int)<(n:Int)+(m:Int):=by omega
 have hb8:(i:Int)≤(c:Int):=by omega
 have hb9:(n:Int)+(m:Int)≤(G:Int):=by omega
 have hgoal:(∃cur':List Value,((W1.setRow w.heap.size A1.toArray).drew.setRow w.heap.size A2.toArray).heap[w.heap.size]? =some (.cells cur'.toArray 45 (0,0))∧cur'.length=G*2∧n+m≤G∧G≤maxLen∧cur'.take ((n+m)*2)=cur.take (i*2)++vcur.take (m*2)++(cur.take (n*2)).drop (i*2))∧qaA (fun _=>False) w ((W1.setRow w.heap.size A1.toArray).drew.setRow w.heap.size A2.toArray):=by
  refine⟨⟨A2,qax (w:=(W1.setRow w.heap.size A1.toArray).drew) (qax hWN _) _,hA2l,hGn,by unfold maxLen;omega,?_⟩,?_⟩
  ·have f0:ROW.take (i*2)=cur.take (i*2):=by
    rw[hROW,zau,zas (by rw[zae];omega),zan (by rw[zae];omega)]
   have f3:(cur.take (i*2)).length=i*2:=by rw[zae];omega
   have f1:A1.take ((i+m)*2)=cur.take (i*2)++vs:=by
    rw[hA1,f0,zas (by simp only[zag,f3];omega),zan (by simp only[zag,f3];omega)]
   rw[hA2,f1,←hcs,←hvs,zas (by simp only[zag,f3];omega),zan (by simp only[zag,f3];omega)]
  ·have hNs:w.heap.size≤w.heap.size:=zax _;have k1:qaA (fun b=>w.heap.size≤b) w ((W1.setRow w.heap.size A1.toArray).drew.setRow w.heap.size A2.toArray):=(((hKW.mono fun _ h=>h.elim).setRow hNs _).drew).setRow hNs _;exact⟨k1.os,k1.tape,k1.output,k1.size,fun k hk _=>k1.block k hk (by omega)⟩
 have HH:Hid (((∃cur':List Value,((W1.setRow w.heap.size A1.toArray).drew.setRow w.heap.size A2.toArray).heap[w.heap.size]? =some (.cells cur'.toArray 45 (0,0))∧cur'.length=G*2∧n+m≤G∧G≤maxLen∧cur'.take ((n+m)*2)=cur.take (i*2)++vcur.take (m*2)++(cur.take (n*2)).drop (i*2))∧qaA (fun _=>False) w ((W1.setRow w.heap.size A1.toArray).drew.setRow w.heap.size A2.toArray))):=hgoal;rw[←hW1]at hrz;clear hgoal hcs hvs hA1 hA2 hW1 hROW hWo hKW hWN hG hold hik;have mixed:Try.prog.follows Departure.mixedOrders=true:=by kernel_rfl
 have hE:=fun ty=>hcp1 ty (i*2) (n+m-i) (G-i) (by omega) (by simp only[Nat.min_def];split<;>omega);go_enter Try.func45,Try.ntmps45;go_wp2_with (at_builtin;refine Lib.wpList_append_run _ rfl _ _ _ _ rfl _ _ rfl rfl _ _ (hrz _) ?_);go_region_law_o (refine qc8 rfl _ _ 29 29 rfl (.slice (some ⟨w.heap.size,(i+m)*2,none⟩) (n+m-(i+m)) (G-(i+m))) (.slice (some ⟨g,i*2,none⟩) (n-i) (c-i)) (by simp[Act.eval,Act.put]) (by simp[Act.eval,Act.put]) (hcp2 3 ((i+m)*2) (i*2) (n+m-(i+m)) (G-(i+m)) (n-i) (c-i) (by omega) (by omega) (by simp only[Nat.min_def];split<;>omega)) ?_);go_wp2;go_ret;exact⟨G,rfl,HH⟩
theorem insert_walk:qmQ Try.prog 45 45 2 32:=by
 intro w v vv n m i xs vs ho1 ho2 hne hi hbig h1 h2;by_cases hm:m=0
 ·subst hm;have e2:vs=[]:=zaz (by have:=ho2.1;omega);subst e2;have hvv:∃a k,vv=.slice a 0 k:=by
   rcases ho2.2 with⟨h,_⟩|⟨g,cap,cur,h,_⟩<;>exact⟨_,_,h⟩
  have fin:∀ao c,v=.slice ao n c→n≤c→(ao=none→n=0)→Calls Try.prog 45 #[v,.int .i64 i,vv] w fun e w'=>∃v',e=.returned v'∧w'.ownsRow 0 45 2 v' (n+0) (xs.take (i*2)++[]++xs.drop (i*2))∧qaA (fun b=>v.ownBlock=some b) w w'∧∀b,v'.ownBlock=some b→v.ownBlock=some b∨w.heap.size≤b:=fun ao c hv hnc hnil=>by
   rw[hv];refine(qiM w ao n c i vv hvv hi hnc hnil).mono ?_;rintro e w' ⟨rfl,rfl⟩;refine⟨_,rfl,?_,qaA.refl _ _,fun b hb=>.inl hb⟩;rw[Nat.add_zero,zaO,zay,←hv];exact ho1
  rcases ho1.2 with⟨h,h0⟩|⟨g,cap,cur,h,_,_,hnc,_⟩
  ·exact fin none 0 (by rw[h,h0]) (by omega) (fun _=>h0)
  ·exact fin _ cap h hnc (fun h=>by cases h)
 ·obtain⟨vb,vc,vcur,rfl,_,hv,hmc,_,hvs,hvt⟩:∃vb vc vcur,vv=.slice (some ⟨vb,0,none⟩) m vc∧0≤vb∧w.heap[vb]? =some (.cells vcur 45 (0,0))∧m≤vc∧vc≤maxLen∧vcur.size=vc*2∧vcur.toList.take (m*2)=vs:=by
   rcases ho2.2 with⟨_,h0⟩|h
   ·exact absurd h0 hm
   ·exact h
  by_cases hin:i=n
  ·subst hin;have hl:=ho1.1;refine(qkp w v i m vb vc xs vs ho1 vcur hv hvt (by omega) (by omega) hbig h2).mono ?_;rintro e w' ⟨v',rfl,k1,k2,k4⟩;refine⟨v',rfl,?_,(qaA.yt k2).mono fun b hb=>hb.symm,fun b hb=>?_⟩
   ·rw[zan (by omega),zaI (by omega),zaO];exact k1
   ·rcases k4 with h|h
    ·exact .inl (by rw[←h];exact hb)
    ·rw[hb]at h;exact .inr (by injection h with h;omega)
  ·obtain⟨g,c,cur,rfl,_,hg,hnc,hcm,hcl,hct⟩:∃g c cur,v=.slice (some ⟨g,0,none⟩) n c∧0≤g∧w.heap[g]? =some (.cells cur 45 (0,0))∧n≤c∧c≤maxLen∧cur.size=c*2∧cur.toList.take (n*2)=xs:=by
    rcases ho1.2 with⟨_,h0⟩|h
    ·omega
    ·exact h
   have hgv:vb≠g:=fun e=>hne g rfl (by rw[e];rfl);have ex:cur.toList.take (i*2)=xs.take (i*2):=by rw[←hct,List.take_take,zaQ (by omega)]
   by_cases hroom:n+m≤c
   ·refine(qgE w g n c i vb m vc cur.toList vcur.toList (by simpa using hg) (by simpa using hv) (by simpa using hcl) (by rw[zaG];omega) hcm hgv (by omega) (by omega) hroom (by rw[hct];exact h1) (by rw[hvt];exact h2)).mono ?_;rintro e w' ⟨rfl,⟨cur',k1,k2,k3⟩,k4⟩;rw[hct,hvt,ex]at k3;refine⟨_,rfl,⟨?_,.inr ⟨g,c,cur'.toArray,rfl,zaD _,k1,hroom,hcm,by simpa using k2,k3⟩⟩,k4.mono fun b hb=>by rw[hb];rfl,fun b hb=>.inl hb⟩;have hl:=ho1.1;have hl2:=ho2.1;simp only[zag,zae,zal];omega
   ·refine(qiy w g n c i vb m vc cur.toList vcur.toList (by simpa using hg) (by simpa using hv) (by simpa using hcl) (by rw[zaG];omega) hcm hnc (by omega) (by omega) (by omega) hbig (by rw[hct];exact h1) (by rw[hvt];exact h2)).mono ?_;rintro e w' ⟨c',rfl,⟨cur',k1,k2,k3,k4,k5⟩,k6⟩;rw[hct,hvt,ex]at k5;refine⟨_,rfl,⟨?_,.inr ⟨w.heap.size,c',cur'.toArray,rfl,zaD _,k1,k3,k4,by simpa using k2,k5⟩⟩,k6.mono fun b hb=>hb.elim,fun b hb=>.inr (by have h:some w.heap.size=some b:=hb;injection h with h;omega)⟩;have hl:=ho1.1;have hl2:=ho2.1;simp only[zag,zae,zal];omega
end Go.Proofs.Ytdiobaoelhdkoaa.Ins_Entry
