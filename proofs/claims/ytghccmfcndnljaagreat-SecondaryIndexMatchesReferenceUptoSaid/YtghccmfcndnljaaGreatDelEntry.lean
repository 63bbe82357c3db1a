/- slices.Delete on a row of the call's own: walked once. -/
import Derived.Test.YtghccmfcndnljaaGreatProg
import Derived.Test.YtghccmfcndnljaaGreatViXE
import Derived.WalkKit
import Derived.Tactics
import Derived.Tactics2
import Derived.StillTactics
import Derived.OwnWalk
import Derived.Shelf.RegionOpenPlain
import Derived.Lib.SliceRun
import Derived.KernelRfl
import Derived.IntWalk
set_option linter.unusedVariables false
set_option linter.unusedSimpArgs false
set_option linter.unnecessarySimpa false
set_option linter.unusedSectionVars false
set_option linter.unusedVariables false
open List renaming append_assoc → zaC, getElem?_drop → zan, getElem?_take → zal, length_append → zag, length_drop → zap, length_take → zaf, mem_map → zaS, take_append_drop → zaK, take_append_of_le_length → zaG, take_of_length_le → zas
open Nat renaming zero_le → za6
namespace Go.Proofs.YtghccmfcndnljaaGreat.Del_Entry
open Go.RowKit Go.Vi
theorem qn4 (k:Nat):((.agg #[.slice none 0 0,.slice none 0 0]:Value).cells[k%(.agg #[.slice none 0 0,.slice none 0 0]:Value).cells.size]!).oneCell'=true:=by
 have h:k%(.agg #[.slice none 0 0,.slice none 0 0]:Value).cells.size<2:=Nat.mod_lt _ (by decide);have hc:∀m,m<2→((.agg #[.slice none 0 0,.slice none 0 0]:Value).cells[m]!).oneCell'=true:=by decide
 exact hc _ h
theorem qkr:(Tryz.prog.info? 63).map (·.size)=some 2:=by kernel_rfl
set_option maxHeartbeats 4000000 in
set_option maxRecDepth 100000 in
theorem qop (w:World) (ao:Option Addr) (n c i:Nat) (hi:i≤n) (hnc:n≤c) (hnil:ao=none→n=0∧c=0):
  Calls Tryz.prog 50 #[.slice ao n c,.int .i64 i,.int .i64 i] w fun e w'=>e=.returned (.slice ao n c)∧w'=w:=by
 have h1:(0:Int)≤(i:Int):=Int.natCast_nonneg _;have h2:(i:Int)≤(n:Int):=by omega
 have h3:(n:Int)≤(c:Int):=by omega
 go_enter Tryz.func50,Tryz.ntmps50;cases ao with
 |none=>
  obtain⟨rfl,rfl⟩:=hnil rfl;obtain rfl:i=0:=by omega
  go_wp2;all_goals (go_ret;exact⟨rfl,rfl⟩)
 |some ad=>
  obtain⟨b,o,s⟩:=ad;go_wp2;all_goals (go_ret;exact⟨rfl,rfl⟩)
set_option maxHeartbeats 4000000 in
set_option maxRecDepth 100000 in
theorem qoa (w:World) (g n c i j:Nat) (cur:List Value) (hg:w.heap[g]? =some (.cells cur.toArray 63 (0,0))) (hcl:cur.length=c*2) (hcm:c≤maxLen) (hnc:n≤c) (hi:i<j) (hj:j≤n)
  (h1:∀u∈cur.take (n*2),u.oneCell'=true):
  Calls Tryz.prog 50 #[.slice (some ⟨g,0,none⟩) n c,.int .i64 i,.int .i64 j] w fun e w'=>e=.returned (.slice (some ⟨g,0,none⟩) (i+(n-j)) c)∧
   (∃cur':List Value,w'.heap[g]? =some (.cells cur'.toArray 63 (0,0))∧cur'.length=c*2∧cur'.take ((i+(n-j))*2)=cur.take (i*2)++(cur.take (n*2)).drop (j*2))∧qbc (fun b=>b=g) w w':=by
 unfold maxLen at hcm;obtain⟨cs,hcs⟩:∃cs,cs=(cur.take (n*2)).drop (j*2):=⟨_,rfl⟩;have hcsl:cs.length=(n-j)*2:=by rw[hcs,zap,zaf];omega
 obtain⟨A1,hA1⟩:∃A1,A1=cur.take (i*2)++cs++cur.drop (i*2+cs.length):=⟨_,rfl⟩;have hA1l:A1.length=c*2:=by rw[hA1];simp only[zag,zaf,zap];omega
 obtain⟨Z,hZ⟩:∃Z,Z=(Builtin.zeroCells (.agg #[.slice none 0 0,.slice none 0 0]:Value).cells (n-(i+(n-j)))).toList:=⟨_,rfl⟩;have hzc:(.agg #[.slice none 0 0,.slice none 0 0]:Value).cells.size=2:=rfl;have hZl:Z.length=(n-(i+(n-j)))*2:=by rw[hZ];simp[Builtin.zeroCells,hzc]
 obtain⟨A2,hA2⟩:∃A2,A2=A1.take ((i+(n-j))*2)++Z++A1.drop ((i+(n-j))*2+(n-(i+(n-j)))*2):=⟨_,rfl⟩;have hA2l:A2.length=c*2:=by rw[hA2];simp only[zag,zaf,zap];omega
 have hap:∀ty ad sl sc,(sl≠0→ad=⟨g,j*2,none⟩)→sl=n-j→(Builtin.append_ #[27,27] ty #[.slice (some ⟨g,0,none⟩) i c,.slice (some ad) sl sc]).run Tryz.prog w.drew=.ok (.slice (some ⟨g,0,none⟩) (i+sl) c) (w.drew.setRow g A1.toArray):=fun ty ad sl sc ho hsl=>by
  subst hsl;rw[hA1];refine qhS w.drew 27 ty 63 2 Tryz.underlying27 qkr g i c _ (n-j) sc cur _ cs hg hcsl (fun k u hk=>?_) (fun u hu=>h1 u (by rw[hcs]at hu;exact List.mem_of_mem_drop hu)) (by omega) (by omega);rw[hcs,zan,zal]at hk;split at hk;case isFalse=>cases hk
  rw[ho (by rename_i hlt;omega),qL];show w.cell? _=_;simp only[World.cell?,hg];simpa using hk
 have hclr:∀ty o n' c',o=(i+(n-j))*2→n'=n-(i+(n-j))→(Builtin.clear_ #[27] ty #[.slice (some ⟨g,o,none⟩) n' c']).run Tryz.prog (w.drew.setRow g A1.toArray)=.ok (.tuple #[]) ((w.drew.setRow g A1.toArray).setRow g A2.toArray):=fun ty o n' c' ho hn'=>by
  subst ho hn';rw[hA2,hZ];refine qgb (w.drew.setRow g A1.toArray) 27 ty 63 _ Tryz.underlying27 Tryz.zeroValue63 g _ _ c' A1 _ (qaV (w:=w.drew) hg _) (by omega) (by rw[hzc];omega) (fun v hv=>?_);simp only[Builtin.zeroCells,Array.toList_map,zaS]at hv;obtain⟨k,hk,rfl⟩:=hv;exact qn4 k
 have hb0:(0:Int)≤(i:Int):=Int.natCast_nonneg _;have hb1:(0:Int)≤(j:Int):=Int.natCast_nonneg _;have hb2:(i:Int)≤(j:Int):=by omega
 have hb3:(j:Int)≤(n:Int):=by omega
 have hb4:(n:Int)≤(c:Int):=by omega
 have hb5:¬((i:Int)=(j:Int)):=by omega
 have hb6:(i:Int)≤(c:Int):=by omega
 have hb7:(i:Int)≤(n:Int):=by omega
 have hb8:i+(n-j)≤n:=by omega
 have hb9:((i:Int)+((n-j:Nat):Int))≤(n:Int):=by omega
 have hgoal:Hid ((∃cur':List Value,((w.drew.setRow g A1.toArray).setRow g A2.toArray).heap[g]? =some (.cells cur'.toArray 63 (0,0))∧cur'.length=c*2∧cur'.take ((i+(n-j))*2)=cur.take (i*2)++(cur.take (n*2)).drop (j*2))∧qbc (fun b=>b=g) w ((w.drew.setRow g A1.toArray).setRow g A2.toArray)):=by
  refine⟨⟨A2,qaV (qaV (w:=w.drew) hg _) _,hA2l,?_⟩,(((qbc.refl (fun b=>b=g) w).drew).setRow rfl _).setRow rfl _⟩;have f3:(cur.take (i*2)).length=i*2:=by rw[zaf];omega
  have f1:A1.take ((i+(n-j))*2)=cur.take (i*2)++cs:=by
   rw[hA1,zaG (by simp only[zag,f3];omega),zas (by simp only[zag,f3];omega)]
  rw[hA2,f1,←hcs,zaC,zaG (by simp only[zag,f3];omega),zas (by simp only[zag,f3];omega)]
 clear hcs hA1 hA2 hZ hZl;have mixed:Tryz.prog.follows Departure.mixedOrders=true:=by kernel_rfl
 by_cases hcj:c=j
 ·obtain rfl:n=j:=by omega
  subst hcj;have hE:=fun ty=>hclr ty (i*2) (c-i) (c-i) (by omega) (by omega);have hij:(i:Int)≤(c:Int):=by omega
  go_enter Tryz.func50,Tryz.ntmps50;go_wp2_with fail;go_region_law_o (refine qeh rfl _ _ 27 27 rfl (.slice (some ⟨g,0,none⟩) i c) (.slice (some ⟨g,0,none⟩) 0 0) (by simp[Act.eval,Act.put]) (by simp[Act.eval,Act.put]) (hap 27 ⟨g,0,none⟩ 0 0 (fun h=>absurd rfl h) (by omega)) ?_);go_wp2;go_ret;exact⟨by simp,by simpa[Hid]using hgoal⟩
 ·go_enter Tryz.func50,Tryz.ntmps50;go_wp2_with fail;go_region_law_o (refine qeh rfl _ _ 27 27 rfl (.slice (some ⟨g,0,none⟩) i c) (.slice (some ⟨g,j*2,none⟩) (n-j) (c-j)) (by simp[Act.eval,Act.put]) (by simp[Act.eval,Act.put]) (hap 27 ⟨g,j*2,none⟩ (n-j) (c-j) (fun _=>by first|rfl|simp) rfl) ?_);go_wp2;go_ret;exact⟨rfl,by simpa[Hid]using hgoal⟩
theorem delete_walk:qnP Tryz.prog 50 63 2:=by
 intro w v n i j xs ho hij hj h1;by_cases he:i=j
 ·subst he;have fin:∀ao c,v=.slice ao n c→n≤c→(ao=none→n=0∧c=0)→Calls Tryz.prog 50 #[v,.int .i64 i,.int .i64 i] w fun e w'=>∃v',e=.returned v'∧w'.ownsRow 0 63 2 v' (i+(n-i)) (xs.take (i*2)++xs.drop (i*2))∧qbc (fun b=>v.ownBlock=some b) w w'∧v'.ownBlock=v.ownBlock:=fun ao c hv hnc hnil=>by
   rw[hv];refine(qop w ao n c i hj hnc hnil).mono ?_;rintro e w' ⟨rfl,rfl⟩;refine⟨_,rfl,?_,qbc.refl _ _,rfl⟩;rw[zaK,←hv,Nat.add_sub_cancel' hj];exact ho
  rcases ho.2 with⟨h,h0⟩|⟨g,cap,cur,h,_,_,hnc,_⟩
  ·exact fin none 0 (by rw[h,h0]) (by omega) (fun _=>⟨h0,rfl⟩)
  ·exact fin _ cap h hnc (fun h=>by cases h)
 ·obtain⟨g,c,cur,rfl,_,hg,hnc,hcm,hcl,hct⟩:∃g c cur,v=.slice (some ⟨g,0,none⟩) n c∧0≤g∧w.heap[g]? =some (.cells cur 63 (0,0))∧n≤c∧c≤maxLen∧cur.size=c*2∧cur.toList.take (n*2)=xs:=by
   rcases ho.2 with⟨_,h0⟩|h
   ·omega
   ·exact h
  have ex:cur.toList.take (i*2)=xs.take (i*2):=by rw[←hct,List.take_take,Nat.min_eq_left (by omega)]
  refine(qoa w g n c i j cur.toList (by simpa using hg) (by simpa using hcl) hcm hnc (by omega) hj (by rw[hct];exact h1)).mono ?_;rintro e w' ⟨rfl,⟨cur',k1,k2,k3⟩,k4⟩;rw[hct,ex]at k3;refine⟨_,rfl,⟨?_,.inr ⟨g,c,cur'.toArray,rfl,za6 _,k1,by omega,hcm,by simpa using k2,k3⟩⟩,k4.mono fun b hb=>by rw[hb];rfl,rfl⟩;have hl:=ho.1;simp only[zag,zaf,zap];omega
end Go.Proofs.YtghccmfcndnljaaGreat.Del_Entry
