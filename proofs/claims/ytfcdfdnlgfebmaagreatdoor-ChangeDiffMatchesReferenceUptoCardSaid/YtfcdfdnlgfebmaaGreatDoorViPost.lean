/- A law's contract, in the rows' terms. -/
import Derived.Test.YtfcdfdnlgfebmaaGreatDoorViLaw
set_option linter.unusedVariables false
set_option linter.unusedSimpArgs false
set_option linter.unnecessarySimpa false
set_option linter.unusedSectionVars false
namespace Go.Vi
open Go.RowKit Go.WideShapes Go.ChangeShapes
section
variable {H:Type} {enc:TypeId×Value→H} {P:Program}
theorem qq3 {f:Func} {s:ChangeSpec} {apart fresh handsOn again:Bool} {W W':World} {args:Array Value} {v:Value} {ds gs:List (DataW H)} {before pa pv:List MemPlace}
  (hW:DataW.Whole enc P f.params.toList s.vars apart W args.toList ds gs before)
  (hres:∀(b:Nat) (sp:Nat→Bool) (hd:Bool),DataW.TrodAll enc P W' b sp hd f.resultTypes.toList (v.resultList f.resultTypes.size) (s.fn H (ds++gs)).results [])
  (hargs:∀sp:Nat→Bool,(∀p∈before,sp p.block=true)→DataW.TrodAll enc P W' 0 sp true f.params.toList args.toList (s.fn H (ds++gs)).args pa)
  (hvars:∀sp:Nat→Bool,(∀p∈before,sp p.block=true)→DataW.TrodVars enc P W' sp s.vars (s.fn H (ds++gs)).vars pv)
  (hps:before=pa++pv) (hb:Below W.heap.size W W')
  (hok:∀(j:Nat) (t:TypeId) (r:Value),f.resultTypes[j]? =some t→(v.resultList f.resultTypes.size)[j]? =some r→Value.okWide P W' .any 0 t r):
  s.post enc P f apart fresh handsOn again W args v W':=by
 have hlt:∀p∈before,p.block<W.heap.size:=fun p hp=>hW.lt p hp
 have hold:∀p∈before,(fun b=>decide (b<W.heap.size)) p.block=true:=fun p hp=>by simpa using hlt p hp
 refine ⟨ds,gs,before,[],pa,pv,hW,hres _ _ _,hargs _ hold,hvars _ hold,World.keptBut_mono (fun p hp=>⟨hp,?_⟩) (hb.frame (· ∈before)),fun _=> ?_⟩
 ·rw [hps,List.mem_append] at hp
  exact Or.inr hp
 ·obtain ⟨_,_,_,_,_,hz,hn⟩:=hW
  refine ⟨hok,_,_,([]++pa)++pv,⟨[]++pa,pv,trodAll_append (hargs _ (fun _ _=>rfl)) (hres _ _ _),hvars _ (fun _ _=>rfl),rfl,?_,?_⟩,?_⟩
  ·intro b off hp
   have hin:MemPlace.cell b off∈before:=by rw [hps]; simpa using hp
   rw [hb.frozen (hlt _ hin)]
   exact hz b off hin
  ·intro ha
   have:=hn ha
   rw [hps] at this
   simpa using this
  ·intro p hp _
   rw [hps]
   simpa using hp
theorem qjv {T:qkG} {bk:DataW H→Nat} {bkA:List (DataW H)→Nat} (hb:qrv bk bkA) {B:Nat} {fi:Nat} {fn:Func} {s:ChangeSpec} {apart fresh handsOn again:Bool} {us:List Ty} {ts:List Nat} {tb:Nat} {sem:Nat→PMs.den (us.map .val)→Option (RMs.den [.val .bool]×PMs.ioDen (us.map .val))}
  (hp:fn.params.toList=ts) (hr:fn.resultTypes= #[tb]) (htb:P.underlying tb=some .bool) (hdeep:qiJ P us ts=true) (hl:laidOutB P=true) (hread:ts.all (fun t=>P.readableRec t&&decide (t<P.types.size))=true) (hvars:s.vars=[])
  (hfn:∀ds:List (DataW H),ds.length=us.length→s.fn H ds= { results:=[.lit (.bool true)],args:=ds })
  (hC:∀N,qk.okT P T fi ⟨us.map .val,[.val .bool],sem N⟩) (hsem:∀x,qli us x→qkn us x≤B→∃N z,sem N x=some ((true,()),z))
  {W:World} {args:Array Value} {ds gs:List (DataW H)} {before:List MemPlace} {r:Reach} {base:Nat}
  (hT:qc4 T W fun b=>b<W.heap.size)
  (hval:∀(j:Nat) t v,fn.params[j]? =some t→args[j]? =some v→Value.okWide P W r base t v)
  (hW:DataW.Whole enc P fn.params.toList s.vars apart W args.toList ds gs before) (hk:bkA (ds++gs)≤B):
  Calls P fi args W fun e W'=>∃v,e= .returned v∧s.post enc P fn apart fresh handsOn again W args v W':=by
 have hW':=hW
 obtain ⟨p,q,hA,hV,rfl,hfz,hnd⟩:=hW
 rw [hvars] at hV
 obtain ⟨rfl,rfl⟩:=trodVars_none hV
 rw [hp] at hA
 have hrd:∀t∈ts,P.readableRec t=true∧t<P.types.size:=fun t ht=>by
  have:=List.all_eq_true.1 hread t ht
  simpa using this
 have hlen:∀ {ts:List Nat} {us:List Ty} {vs:List Value} {ds:List (DataW H)} {p:List MemPlace},qiJ P us ts=true→DataW.TrodAll enc P W 0 (fun _=>true) true ts vs ds p→ds.length=us.length:=by
  intro ts
  induction ts with
  |nil=>
   intro us vs ds p hd h
   obtain ⟨rfl,rfl,rfl⟩:=trodAll_nil h
   cases us with
   |nil=>rfl
   |cons u us=>cases hd
  |cons t ts ih=>
   intro us vs ds p hd h
   obtain ⟨v,vs',d,ds',p,q,rfl,rfl,rfl,h0,hr⟩:=trodAll_cons h
   cases us with
   |nil=>cases hd
   |cons u us=>
    simp only [qiJ,Bool.and_eq_true] at hd
    simp only [List.length_cons]
    rw [ih hd.2 hr]
 have hdl:=hlen hdeep hA
 obtain ⟨x,k1,k2⟩:=qoN hb us hdeep (fun j t v ht hv=>hval j t v (by rw [←Array.getElem?_toList,hp]; exact ht) (by rw [←Array.getElem?_toList]; exact hv)) hA
 rw [List.append_nil] at hk
 obtain ⟨N,z,hz⟩:=hsem x (qas.good us k1) (by omega)
 have:=(hC N).2 W (fun b=>b<W.heap.size) x ((true,()),z) args.toList [] [] hT k1 (fun b hb=>by cases hb) List.nodup_nil hz
 rw [Array.toArray_toList] at this
 refine this.mono fun e W' ⟨v,he,vs,bs,hv,_,_,hcs,_,hkept⟩=>⟨v,he,?_⟩
 obtain ⟨v',r',b1,b2,rfl,rfl,⟨rfl,hrep,_,hna⟩,hnil,_⟩:=hcs
 subst hnil
 have hv':v'= .bool true:=by
  have:v'.cells.toList=[.bool true]:=hrep
  have hna:=hna rfl
  cases v' <;> simp_all [Value.cells]
 rw [hv'] at hv
 have hv:v= .bool true:=hv
 rw [hv]
 have hbelow:Below W.heap.size W W':=⟨hkept.os,hkept.tape,hkept.output,hkept.size,fun k hk=>hkept.block k hk fun h=>by cases h⟩
 have hlt:∀x∈p,x.block<W.heap.size:=fun x hx=>hW'.lt x (by simpa using hx)
 refine qq3 (pa:=p) (pv:=[]) hW' (fun b sp hd=> ?_) (fun sp hsp=> ?_) (fun sp _=> ?_) rfl hbelow (ok_one hr rfl (okWide_bool_mk htb true))
 ·rw [List.append_nil,hfn ds hdl,hr]
  exact trodAll_cons_mk (p':=[]) (shut_bool htb true) trodAll_mk0
 ·rw [List.append_nil,hfn ds hdl,hp]
  exact qoY hl hrd hA hbelow hlt fun x hx=>hsp x (by simpa using hx)
 ·rw [List.append_nil,hfn ds hdl,hvars]
  rfl
theorem quN {bk:DataW H→Nat} {bkA:List (DataW H)→Nat} (hb:qrv bk bkA) {B:Nat} {fi:Nat} {fn:Func} {s:ChangeSpec} {apart fresh handsOn again:Bool} {us:List Ty} {ts:List Nat} {tb:Nat} {sem:Nat→PMs.den (us.map .val)→Option (RMs.den [.val .bool]×PMs.ioDen (us.map .val))}
  (hp:fn.params.toList=ts) (hr:fn.resultTypes= #[tb]) (htb:P.underlying tb=some .bool) (hdeep:qiJ P us ts=true) (hl:laidOutB P=true) (hread:ts.all (fun t=>P.readableRec t&&decide (t<P.types.size))=true) (hvars:s.vars=[])
  (hfn:∀ds:List (DataW H),ds.length=us.length→s.fn H ds= { results:=[.lit (.bool true)],args:=ds })
  (hC:∀N,qk.ok P fi ⟨us.map .val,[.val .bool],sem N⟩) (hsem:∀x,qli us x→qkn us x≤B→∃N z,sem N x=some ((true,()),z))
  {W:World} {args:Array Value} {ds gs:List (DataW H)} {before:List MemPlace} {r:Reach} {base:Nat}
  (hval:∀(j:Nat) t v,fn.params[j]? =some t→args[j]? =some v→Value.okWide P W r base t v)
  (hW:DataW.Whole enc P fn.params.toList s.vars apart W args.toList ds gs before) (hk:bkA (ds++gs)≤B):
  Calls P fi args W fun e W'=>∃v,e= .returned v∧s.post enc P fn apart fresh handsOn again W args v W':=by
 exact qjv hb hp hr htb hdeep hl hread hvars hfn hC hsem qc4.none hval hW hk
end
end Go.Vi
