/- R.Encode: a row's code, written into a strings.Builder: walked once. -/
import Derived.Test.YtnlkfgdojfijpaaGreatDoorShf
import Derived.Test.YtnlkfgdojfijpaaGreatDoorViXD
import Derived.Shelf.Strings.BuilderK
import Derived.WalkKit
import Derived.Tactics
import Derived.Tactics2
import Derived.StillTactics
import Derived.OwnWalk
import Derived.Laws.Pointers
import Derived.Deep.RegionHeld3
import Derived.Deep.DrawnRows
import Derived.KernelRfl
import Derived.IntWalk
set_option linter.unusedVariables false
set_option linter.unusedSimpArgs false
set_option linter.unnecessarySimpa false
set_option linter.unusedSectionVars false
set_option linter.unusedVariables false
namespace Go.Proofs.YtnlkfgdojfijpaaGreatDoor
open Go.RowKit Go.Vi
theorem bSize:(Tryz.prog.info? 137).map (·.size)=some 2:=by kernel_rfl
theorem info5:(Tryz.prog.info? 5).map (fun i=>(i.zero,i.size,i.bytes))=some (some (.int .u8 0),1,1):=by kernel_rfl
set_option maxHeartbeats 1000000 in
set_option maxRecDepth 100000 in
theorem qnk (b:Nat) (w:World) (h0:w.cell? ⟨b,0,none⟩=some (.pointer (some ⟨b,0,none⟩))):
  Calls Tryz.prog 97 #[.pointer (some ⟨b,0,none⟩)] w fun e w'=>e= .returned (.tuple #[])∧w'=w:=by
 obtain ⟨j,hj,_⟩:=Option.map_eq_some_iff.1 bSize
 go_enter Tryz.func97,Tryz.ntmps97
 go_wp2
 rw [Lib.run_neq_ptr_same w _ Tryz.underlying134 hj]
 go_wp2
 go_end0
 exact ⟨rfl,rfl⟩
set_option maxHeartbeats 1000000 in
set_option maxRecDepth 100000 in
theorem qna (b:Nat) (w:World) (h0:w.cell? ⟨b,0,none⟩=some (.pointer none)) (hsh:w.shape? b=some (137,2)) (hfz:w.frozen? ⟨b,0,none⟩=false):
  Calls Tryz.prog 97 #[.pointer (some ⟨b,0,none⟩)] w fun e w'=>e= .returned (.tuple #[])∧w'=w.setCell ⟨b,0,none⟩ (.pointer (some ⟨b,0,none⟩)):=by
 obtain ⟨j,hj,hjs⟩:=Option.map_eq_some_iff.1 bSize
 go_enter Tryz.func97,Tryz.ntmps97
 go_wp2
 rw [Lib.run_to_unsafe w ⟨b,0,none⟩ Tryz.underlying134 Tryz.underlying163 hj (by rw [hjs]; decide) hsh (Nat.zero_lt_succ 1)]
 simp only [Result.andThen]
 rw [Oper.upon_value]
 go_wp2
 rw [run_callFunc_extern Tryz.func111 (by kernel_rfl) (by kernel_rfl) (by kernel_rfl) (e:=Extern.AbiNoEscape.same) (by kernel_rfl)]
 rw [Lib.run_noEscape]
 simp only [Result.andThen]
 rw [Oper.upon_value]
 go_wp2
 rw [Lib.run_from_unsafe w ⟨b,0,none⟩ Tryz.underlying163 Tryz.underlying134 hj hsh (by kernel_rfl)]
 simp only [Result.andThen]
 rw [Oper.upon_value]
 go_wp2
 go_end0
 exact ⟨rfl,rfl⟩
theorem qq0 (B b:Nat) (bs:List Value) (w:World) (h:Lib.IsBuilderF 137 5 B b bs w):
  Calls Tryz.prog 97 #[.pointer (some ⟨b,0,none⟩)] w fun e w'=>e= .returned (.tuple #[])∧(Lib.BuilderAtF 137 5 B b (.pointer (some ⟨b,0,none⟩)) bs w'∧Below B w w'∧Lib.OthersKept 5 (some b) w w'):=by
 rcases h with h|h
 ·refine (qna b w h.cell0 h.shape h.frozen0).mono ?_
  rintro e w' ⟨rfl,rfl⟩
  exact ⟨rfl,h.used _,(Below.refl B w).setCell (p:=⟨b,0,none⟩) h.1 _,(Lib.OthersKept.refl _ _ w).setCell ⟨b,0,none⟩ rfl _⟩
 ·refine (qnk b w h.cell0).mono ?_
  rintro e w' ⟨rfl,rfl⟩
  exact ⟨rfl,h,Below.refl B _,Lib.OthersKept.refl _ _ _⟩
set_option maxHeartbeats 2000000 in
set_option maxRecDepth 100000 in
theorem qke (B b:Nat) (bs:List Value) (s:ByteArray) (w:World) (h:Lib.IsBuilderF 137 5 B b bs w) (hlen:bs.length+s.size≤140737488355328) (hBw:B≤w.heap.size):
  Calls Tryz.prog 83 #[.pointer (some ⟨b,0,none⟩),.string s] w fun e w'=>e= .returned (.tuple #[.int .i64 s.size,.nilIface])∧(Lib.BuilderAtF 137 5 B b (.pointer (some ⟨b,0,none⟩)) (bs++Lib.strCells s) w'∧Below B w w'∧Lib.OthersKept 5 (some b) w w'):=by
 obtain ⟨i0,hi,hz0,hz1,hz2⟩:=info_parts info5
 go_enter Tryz.func83,Tryz.ntmps83
 go_wp2_with (go_at_call 97; refine (qq0 B b bs _ h).mono ?_)
 rintro e w1 ⟨rfl,h1,hb1,hk1⟩
 obtain ⟨hB,v,hbk,hown,hne⟩:=h1
 have c0:w1.cell? ⟨b,0,none⟩=some (.pointer (some ⟨b,0,none⟩)):=by rw [Lib.cell_of_heap hbk]; rfl
 have c1:w1.cell? ⟨b,1,none⟩=some v:=by rw [Lib.cell_of_heap hbk]; rfl
 go_wp2_with (at_builtin; refine Lib.wpList_append_own_stringF _ rfl _ _ 135 9 rfl B 5 i0 Tryz.underlying135 Tryz.underlying9 hi hz0 hz1 hz2 _ _ _ rfl hown s rfl ?c3 ?c4 ?c5 ?_)
 case c3=>unfold maxLen; omega
 case c4=>omega
 case c5=>have:=hb1.size; omega
 intro v' w2 hown' hgrow _
 have hlt:b<w1.heap.size:=by
  rcases Nat.lt_or_ge b w1.heap.size with h'|h'
  ·exact h'
  ·simp [Array.getElem?_eq_none h'] at hbk
 have hb2:w2.heap[b]? =some (.cells #[.pointer (some ⟨b,0,none⟩),v] 137 (0,0)):=by
  rw [hgrow.block b hlt (fun e=>hne e.symm)]
  exact hbk
 have d0:w2.cell? ⟨b,0,none⟩=some (.pointer (some ⟨b,0,none⟩)):=by rw [Lib.cell_of_heap hb2]; rfl
 have d1:w2.cell? ⟨b,1,none⟩=some v:=by rw [Lib.cell_of_heap hb2]; rfl
 have f1:w2.frozen? ⟨b,1,none⟩=false:=Lib.frozen_of_heap hb2 1
 obtain ⟨ao,n',cap,rfl⟩:∃ao n' cap,v'= .slice ao n' cap:=by
  rcases hown'.2 with ⟨hv,_⟩|⟨g,cap,cur,fz,hv,_⟩
  ·exact ⟨_,_,_,hv⟩
  ·exact ⟨_,_,_,hv⟩
 go_wp2
 go_ret2
 refine ⟨rfl,?_,?_,(hk1.grown hgrow (Lib.ownsRowF_kind hown)).setCell ⟨b,1,none⟩ rfl _⟩
 ·exact Lib.BuilderAtF.put (T:=137) (e:=5) hB hb2 (bs':=bs++Lib.strCells s) (by simpa [Lib.strCells_length] using hown') (by decide)
 ·exact (hb1.grown hgrow (by have:=hb1.size; omega) (fun k hk=>(hown.lt k hk).1)).setCell (p:=⟨b,1,none⟩) hB _
theorem qhE {T e:TypeId} {B b:Nat} {bs:List Value} {w w':World} (h:Lib.IsBuilderF T e B b bs w) (hb:Below w.heap.size w w'):Lib.IsBuilderF T e B b bs w':=by
 have one:∀ {p:Value},Lib.BuilderAtF T e B b p bs w→Lib.BuilderAtF T e B b p bs w':=by
  rintro p ⟨hB,v,hk,hown,hne⟩
  have lt:∀ {k:Nat} {o:Obj},w.heap[k]? =some o→w'.heap[k]? =some o:=fun {k o} hh=>by
   rw [hb.block k (Array.getElem?_eq_some_iff.1 hh).1]; exact hh
  refine ⟨hB,v,lt hk,⟨hown.1,?_⟩,hne⟩
  rcases hown.2 with h0|⟨g,cap,cur,fz,h1,h2,h3,h4⟩
  ·exact .inl h0
  ·exact .inr ⟨g,cap,cur,fz,h1,h2,lt h3,h4⟩
 exact h.elim (fun x=> .inl (one x)) (fun x=> .inr (one x))
theorem qqK {P:Program} {w w':World} {name:String} {k:IntKind} {zs:List Int} {B:Nat} (h:Lib.TabIs P w name k zs) (hb:Below B w w') (hB:w.heap.size≤B):Lib.TabIs P w' name k zs:=by
 unfold Lib.TabIs World.var? at h⊢
 cases hg:P.globalNamed name with
 |none=>rw [hg] at h; cases h
 |some g=>
  rw [hg] at h
  simp only [Option.bind_some] at h⊢
  have hlt:g<w.heap.size:=by
   rcases Nat.lt_or_ge g w.heap.size with h'|h'
   ·exact h'
   ·simp [Array.getElem?_eq_none h'] at h
  rw [hb.block g (by omega)]
  exact h
theorem qwg (n:Int) (h0: -9223372036854775808≤n) (h1:n≤9223372036854775807) (w0 w:World) (hT:Lib.TabIs Tryz.prog w0 "internal/strconv.uint64pow10" .u64 Lib.pow10Tab) (hb:Below w0.heap.size w0 w):
  Calls Tryz.prog 75 #[.int .i64 n] w fun e w'=>e= .returned (.string ⟨(Lib.itoa n).toArray⟩)∧Below w.heap.size w w':=
 (Tryz.strconv_Itoa n h0 h1 w (qqK hT hb (Nat.le_refl _))).mono fun e w' ⟨he,k,os,hw⟩=>⟨he,by subst hw; exact Lib.below_grow _ _ (Nat.le_refl _) _ _⟩
theorem qk8 {w w':World} {B:Nat} (h:Below B w w') {a:Addr} (ha:a.block<B):w'.cell? a=w.cell? a:=by
 unfold World.cell?
 rw [h.block _ ha]
theorem qjI {P:Program} (x y:List UInt8) (h:x.length+y.length≤9223372036854775807) (W:World):(Op.stringOp .add ⟨x.toArray⟩ ⟨y.toArray⟩).run P W= .ok (.string ⟨(x++y).toArray⟩) W:=by
 rw [run_string_add_sum W _ _ (by rw [qlU,qlU]; exact h),ByteArray.mk_append_mk]
structure qsl (w0:World) (N:Nat) (x0 x1:Int) (x2:List UInt8) (bs:List Value) (W:World):Prop where
 hp:W.heap[N]? =some (.cells #[.int .i64 x0,.int .i64 x1,.string ⟨x2.toArray⟩] 65 (0,0))
 below:Below w0.heap.size w0 W
 bld:Lib.IsBuilderF 137 5 w0.heap.size w0.heap.size bs W
structure qwE (N:Nat) (x0 x1:Int) (x2:List UInt8) (W:World):Prop where
 c0:W.cell? ⟨N,0,none⟩=some (.int .i64 x0)
 c1:W.cell? ⟨N,1,none⟩=some (.int .i64 x1)
 c2:W.cell? ⟨N,2,none⟩=some (.string ⟨x2.toArray⟩)
theorem qrR {N:Nat} {x0 x1:Int} {x2:List UInt8} {W:World} (h:W.heap[N]? =some (.cells #[.int .i64 x0,.int .i64 x1,.string ⟨x2.toArray⟩] 65 (0,0))):qwE N x0 x1 x2 W:=
 ⟨by rw [Lib.cell_of_heap h]; rfl,by rw [Lib.cell_of_heap h]; rfl,by rw [Lib.cell_of_heap h]; rfl⟩
theorem qsl.box {w0:World} {N:Nat} {x0 x1:Int} {x2:List UInt8} {bs:List Value} {W:World} (h:qsl w0 N x0 x1 x2 bs W):qwE N x0 x1 x2 W:=qrR h.hp
theorem qsl.step {w0:World} {N:Nat} {x0 x1:Int} {x2:List UInt8} {bs:List Value} {W W':World} (h:qsl w0 N x0 x1 x2 bs W) (hb:Below W.heap.size W W'):qsl w0 N x0 x1 x2 bs W':=
 ⟨by rw [hb.block N (Array.getElem?_eq_some_iff.1 h.hp).1]; exact h.hp,h.below.trans (hb.mono h.below.size),qhE h.bld hb⟩
theorem qsl.drew {w0:World} {N:Nat} {x0 x1:Int} {x2:List UInt8} {bs:List Value} {W:World} (h:qsl w0 N x0 x1 x2 bs W):qsl w0 N x0 x1 x2 bs W.drew:=h.step ((Below.refl _ W).drew)
theorem qsl.wrote {w0:World} {N:Nat} {x0 x1:Int} {x2:List UInt8} {bs:List Value} {W W':World} (h:qsl w0 N x0 x1 x2 bs W) (hN:N≠w0.heap.size) (hk:Lib.OthersKept 5 (some w0.heap.size) W W'):qwE N x0 x1 x2 W':=
 qrR (hk N _ h.hp (fun e=>hN (Option.some.inj e)) (fun c fz e=>by cases e))
theorem itoa_f {w0:World} {N:Nat} {x0 x1:Int} {x2:List UInt8} {bs:List Value} {W:World} (n:Int) (hn:IntKind.i64.has n) (hT:Lib.TabIs Tryz.prog w0 "internal/strconv.uint64pow10" .u64 Lib.pow10Tab) (h:qsl w0 N x0 x1 x2 bs W):
  Calls Tryz.prog 75 #[.int .i64 n] W fun e w'=>e= .returned (.string ⟨(Lib.itoa n).toArray⟩)∧qsl w0 N x0 x1 x2 bs w':=by
 have hn': -9223372036854775808≤n∧n≤9223372036854775807:=by simpa [IntKind.has,IntKind.min,IntKind.max,IntKind.signed,IntKind.bits] using hn
 exact (qwg n hn'.1 hn'.2 w0 W hT h.below).mono fun e w' ⟨he,hb⟩=>⟨he,h.step hb⟩
set_option maxHeartbeats 8000000 in
set_option maxRecDepth 1000000 in
theorem qrj (w:World) (ao:Option Addr) (cap:Nat) (xs:List (Int×(Int×(List UInt8×Unit))))
  (hT:Lib.TabIs Tryz.prog w "internal/strconv.uint64pow10" .u64 Lib.pow10Tab)
  (hn:xs.length≤maxLen)
  (hel:∀i x,xs[i]? =some x→∃a,ao=some a∧a.block<w.heap.size∧w.cell? (a.add (i * 3))=some (.int .i64 x.1)∧w.cell? (a.add (i * 3+1))=some (.int .i64 x.2.1)∧w.cell? (a.add (i * 3+2))=some (.string ⟨x.2.2.1.toArray⟩)∧IntKind.i64.has x.1∧IntKind.i64.has x.2.1∧x.2.2.1.length≤maxLen)
  (hlen:(qe0 xs).length≤1099511627776):
  Calls Tryz.prog 60 #[.slice ao xs.length cap] w fun e w'=>e= .returned (.string ⟨(qe0 xs).toArray⟩)∧Below w.heap.size w w':=by
 have hl0:(Lib.itoa (xs.length:Int)).length≤(qe0 xs).length:=by rw [qe0,List.length_append]; omega
 unfold maxLen at hn
 go_enter Tryz.func60,Tryz.ntmps60
 go_wp2_with (go_at_call 75; refine (qwg xs.length (by omega) (by omega) w _ hT ((Below.refl _ w).alloc (Nat.le_refl _) _)).mono ?_)
 rintro e w1 ⟨rfl,hb1⟩
 have hI0:Lib.IsBuilderF 137 5 w.heap.size w.heap.size [] (w.alloc (.cells #[.pointer none,.slice none 0 0] 137)):=Lib.IsBuilderF.of (Lib.fresh_isBuilder 137 5 w)
 have hI1:=qhE hI0 hb1
 have hw1:Below w.heap.size w w1:=((Below.refl _ w).alloc (Nat.le_refl _) _).trans (hb1.mono (by simp))
 go_wp2_with (go_at_call 83; refine (qke w.heap.size w.heap.size _ _ _ hI1 ?c1 ?c2).mono ?_)
 case c1=>simp [qlU]; omega
 case c2=>have:=hw1.size; omega
 rintro e w2 ⟨rfl,hI2,hb2,hk2⟩
 have hw2:=hw1.trans hb2
 go_wp2
 go_loopw [12] (fun i W=>∃k:Nat,i= .int .i64 k∧k≤xs.length∧Lib.IsBuilderF 137 5 w.heap.size w.heap.size (Lib.byteCells (Lib.itoa (xs.length:Int)++((xs.take k).map qlv).flatten)) W∧Below w.heap.size w W) (fun i W=>xs.length - (intOf i).toNat)
 case atStart=>
  refine ⟨0,by go_num,Nat.zero_le _,.inr ?_,hw2⟩
  have e0:Lib.byteCells (Lib.itoa (xs.length:Int)++((xs.take 0).map qlv).flatten)=[]++Lib.strCells ⟨(Lib.itoa (xs.length:Int)).toArray⟩:=by
   simp [Lib.byteCells,Lib.strCells]
  rw [e0]
  exact hI2
 case round=>
  obtain ⟨k,rfl,hk,hI,hbw⟩:=hrel
  by_cases hp:k<xs.length
  ·obtain ⟨a,rfl,hab,ha0,ha1,ha2,hx0,hx1,hx2⟩:=hel k xs[k] (List.getElem?_eq_getElem hp)
   generalize hx:xs[k]=x at *
   obtain ⟨x0,x1,x2,⟨⟩⟩:=x
   simp only at ha0 ha1 ha2 hx0 hx1 hx2
   have hi0:(0:Int)≤(k:Int):=Int.natCast_nonneg _
   have hi1:(k:Int)<(xs.length:Int):=by omega
   have c0:wr.cell? (a.add (k * 3))=some (.int .i64 x0):=by rw [qk8 hbw (by rw [q8]; exact hab)]; exact ha0
   have c1:wr.cell? ⟨(a.add (k * 3)).block,(a.add (k * 3)).off+1,none⟩=some (.int .i64 x1):=by
    show wr.cell? ((a.add (k * 3)).add 1)=_
    rw [qaQ,qk8 hbw (by rw [q8]; exact hab)]; exact ha1
   have c2:wr.cell? ⟨(a.add (k * 3)).block,(a.add (k * 3)).off+2,none⟩=some (.string ⟨x2.toArray⟩):=by
    show wr.cell? ((a.add (k * 3)).add 2)=_
    rw [qaQ,qk8 hbw (by rw [q8]; exact hab)]; exact ha2
   have hf:qsl w wr.heap.size x0 x1 x2 (Lib.byteCells (Lib.itoa (xs.length:Int)++((xs.take k).map qlv).flatten)) (wr.alloc (.cells #[.int .i64 x0,.int .i64 x1,.string ⟨x2.toArray⟩] 65)):=
    ⟨heap_alloc_new wr _,hbw.alloc hbw.size _,hI.alloc _⟩
   have hN:wr.heap.size≠w.heap.size:=by
    have:=(hI.elim (fun x=>x.lt) (fun x=>x.lt):w.heap.size<wr.heap.size)
    omega
   have hx3:IntKind.i64.has (x2.length:Int):=by
    unfold maxLen at hx2
    constructor <;> simp [IntKind.min,IntKind.max,IntKind.signed,IntKind.bits] <;> omega
   have hx0': -9223372036854775808≤x0∧x0≤9223372036854775807:=by simpa [IntKind.has,IntKind.min,IntKind.max,IntKind.signed,IntKind.bits] using hx0
   have hx1': -9223372036854775808≤x1∧x1≤9223372036854775807:=by simpa [IntKind.has,IntKind.min,IntKind.max,IntKind.signed,IntKind.bits] using hx1
   have hl1:=Lib.itoa_length_le x0 hx0'.1 hx0'.2
   have hl2:=Lib.itoa_length_le x1 hx1'.1 hx1'.2
   have hl3:=Lib.itoa_length_le (x2.length:Int) (by omega) (by unfold maxLen at hx2; omega)
   have hcode:(Lib.itoa (xs.length:Int)++((xs.take k).map qlv).flatten).length+(qlv (x0,x1,x2,())).length≤(qe0 xs).length:=by
    have e1:xs=xs.take k++xs[k]::xs.drop (k+1):=by rw [List.getElem_cons_drop,List.take_append_drop]
    have e2:qe0 xs=Lib.itoa (xs.length:Int)++(((xs.take k).map qlv).flatten++(qlv (x0,x1,x2,())++((xs.drop (k+1)).map qlv).flatten)):=by
     rw [qe0]
     congr 1
     conv=>lhs; rw [e1,List.map_append,List.map_cons,List.flatten_append,List.flatten_cons,hx]
    rw [e2]
    simp only [List.length_append]
    omega
   have hl4:(qlv (x0,x1,x2,())).length=(Lib.itoa x0).length+(Lib.itoa x1).length+(Lib.itoa (x2.length:Int)).length+x2.length+4:=by simp [qlv]; omega
   obtain ⟨s1,h1⟩:∃s,s=[124]++Lib.itoa x0:=⟨_,rfl⟩
   obtain ⟨s2,h2⟩:∃s,s=s1++[44]:=⟨_,rfl⟩
   obtain ⟨s3,h3⟩:∃s,s=s2++Lib.itoa x1:=⟨_,rfl⟩
   obtain ⟨s4,h4⟩:∃s,s=s3++[44]:=⟨_,rfl⟩
   obtain ⟨s5,h5⟩:∃s,s=s4++Lib.itoa (x2.length:Int):=⟨_,rfl⟩
   obtain ⟨s6,h6⟩:∃s,s=s5++[44]:=⟨_,rfl⟩
   obtain ⟨s7,h7⟩:∃s,s=s6++x2:=⟨_,rfl⟩
   have z1:s1.length=1+(Lib.itoa x0).length:=by rw [h1]; simp; omega
   have z2:s2.length=s1.length+1:=by rw [h2]; simp
   have z3:s3.length=s2.length+(Lib.itoa x1).length:=by rw [h3]; simp
   have z4:s4.length=s3.length+1:=by rw [h4]; simp
   have z5:s5.length=s4.length+(Lib.itoa (x2.length:Int)).length:=by rw [h5]; simp
   have z6:s6.length=s5.length+1:=by rw [h6]; simp
   have z7:s7.length=s6.length+x2.length:=by rw [h7]; simp
   have hs7:s7=qlv (x0,x1,x2,()):=by rw [h7,h6,h5,h4,h3,h2,h1]; simp [qlv]
   have a1:∀W,(Op.stringOp .add ⟨#[124]⟩ ⟨(Lib.itoa x0).toArray⟩).run Tryz.prog W= .ok (.string ⟨s1.toArray⟩) W:=fun W=>by rw [h1]; exact qjI _ _ (by simp; omega) W
   have a2:∀W,(Op.stringOp .add ⟨s1.toArray⟩ ⟨#[44]⟩).run Tryz.prog W= .ok (.string ⟨s2.toArray⟩) W:=fun W=>by rw [h2]; exact qjI _ _ (by simp; omega) W
   have a3:∀W,(Op.stringOp .add ⟨s2.toArray⟩ ⟨(Lib.itoa x1).toArray⟩).run Tryz.prog W= .ok (.string ⟨s3.toArray⟩) W:=fun W=>by rw [h3]; exact qjI _ _ (by omega) W
   have a4:∀W,(Op.stringOp .add ⟨s3.toArray⟩ ⟨#[44]⟩).run Tryz.prog W= .ok (.string ⟨s4.toArray⟩) W:=fun W=>by rw [h4]; exact qjI _ _ (by simp; omega) W
   have a5:∀W,(Op.stringOp .add ⟨s4.toArray⟩ ⟨(Lib.itoa (x2.length:Int)).toArray⟩).run Tryz.prog W= .ok (.string ⟨s5.toArray⟩) W:=fun W=>by rw [h5]; exact qjI _ _ (by omega) W
   have a6:∀W,(Op.stringOp .add ⟨s5.toArray⟩ ⟨#[44]⟩).run Tryz.prog W= .ok (.string ⟨s6.toArray⟩) W:=fun W=>by rw [h6]; exact qjI _ _ (by simp; omega) W
   have a7:∀W,(Op.stringOp .add ⟨s6.toArray⟩ ⟨x2.toArray⟩).run Tryz.prog W= .ok (.string ⟨s7.toArray⟩) W:=fun W=>by rw [h7]; exact qjI _ _ (by omega) W
   have hroom:(Lib.byteCells (Lib.itoa (xs.length:Int)++((xs.take k).map qlv).flatten)).length+(⟨s7.toArray⟩:ByteArray).size≤140737488355328:=by
    rw [Lib.byteCells_length,qlU,hs7]; omega
   clear h1 h2 h3 h4 h5 h6 h7 z1 z2 z3 z4 z5 z6 z7 hcode hl1 hl2 hl3 hl4
   subst hs7
   go_wp2_with fail
   go_region_held3 (fun w'=>w'.cell? ⟨wr.heap.size,0,none⟩=some (.int .i64 x0)∧w'.cell? ⟨wr.heap.size,1,none⟩=some (.int .i64 x1)∧w'.cell? ⟨wr.heap.size,2,none⟩=some (.string ⟨x2.toArray⟩))
    (first
     |exact ⟨hv.c0,hv.c1,hv.c2⟩
     |exact ⟨hf.drew.box.c0,hf.drew.box.c1,hf.drew.box.c2⟩
     |exact ⟨hf.box.c0,hf.box.c1,hf.box.c2⟩
     |trivial)
    ((first
     |(go_at_call 75; refine Calls.mono (itoa_f _ (by first|assumption|simpa using hx3) hT (by first|assumption|exact hf.drew)) ?_; rintro e w' ⟨rfl,hg⟩; have hv:=hg.box)
     |(go_at_call 83; refine Calls.mono (qke w.heap.size w.heap.size _ _ _ hg.bld hroom hg.below.size) ?_; rintro e w' ⟨rfl,hI2,hb2,hk2⟩; have hv:=hg.wrote hN hk2)))
   have hk1:IntKind.i64.wrap ((k:Int)+1)=(k:Int)+1:=IntWalk.i64_in _ (by omega)
   go_wp2
   go_roundw
   case rel=>
    refine ⟨k+1,by go_num,by omega,?_,hg.below.trans hb2⟩
    have e1:xs.take (k+1)=xs.take k++[xs[k]]:=by rw [List.take_append_getElem]
    rw [e1,hx,List.map_append,List.flatten_append,List.map_cons,List.map_nil,List.flatten_cons,List.flatten_nil,List.append_nil,←List.append_assoc,Lib.byteCells_append]
    exact .inr hI2
   case measure=>simp [intOf]; omega
  ·go_wp2_with (go_at_call 84; refine (Tryz.Builder_String_any_k w.heap.size w.heap.size _ _ hI (by have:=hbw.size; omega)).mono ?_)
   rintro e W1 ⟨rfl,_,b1,_⟩
   go_wp2
   go_ret
   have hkk:k=xs.length:=by omega
   subst hkk
   refine ⟨?_,hbw.trans b1⟩
   simp [qe0,List.take_of_length_le]
abbrev qvD:Ty:= .pair (.int .i64) (.pair (.int .i64) (.pair .str .unit))
theorem qvp {w:World} {F:Nat→Prop} {x:qvD.den} {cs:List Value} (h:Rep w F qvD x cs):cs=[.int .i64 x.1,.int .i64 x.2.1,.string ⟨x.2.2.1.toArray⟩]∧IntKind.i64.has x.1∧IntKind.i64.has x.2.1∧x.2.2.1.length≤maxLen:=by
 obtain ⟨c1,c2,rfl,⟨h1,h2⟩,d1,d2,rfl,⟨h3,h4⟩,e1,e2,rfl,⟨h5,h6⟩,h7⟩:=h
 have h1:c1=_:=h1
 have h3:d1=_:=h3
 have h5:e1=_:=h5
 have h7:e2=[]:=h7
 subst h1 h3 h5 h7
 exact ⟨rfl,h2,h4,h6⟩
theorem quj {T:qlC} {g:Nat} {tab:List Int} (hg:Tryz.prog.globalNamed "internal/strconv.uint64pow10" =some g) (ht:T g=some ⟨.arr 20 (.int .u64),tab⟩) (hz:tab=Lib.pow10Tab):
  qs.okT Tryz.prog T 60 ⟨[.val (.slice qvD)],[.val .str],fun x=>if (qe0 x.1).length≤1099511627776 then some ((qe0 x.1,()),()) else none⟩:=by
 have:=qrg (P:=Tryz.prog) (T:=T) (f:=60) Tryz.func60 (by kernel_rfl) (by kernel_rfl) [.slice qvD] [.str] (fun x=>if (qe0 x.1).length≤1099511627776 then some (qe0 x.1,()) else none) (fun w F x y args hT hv hy=>by
  obtain ⟨v,r,rfl,k1,rfl⟩:=hv
  split at hy
  case isFalse=>cases hy
  rename_i hl
  injection hy with hy
  subst hy
  obtain ⟨⟨v',hc,hs⟩,_,hna⟩:=k1
  have hv':v=v':=by
   cases v
   case agg cs _=>exact absurd rfl (hna rfl _)
   all_goals (simp [Value.cells] at hc; exact hc)
  subst hv'
  have hw:=qrj w
  have key:∃ao cap,v= .slice ao x.1.length cap∧x.1.length≤maxLen∧∀i z,x.1[i]? =some z→∃a,ao=some a∧a.block<w.heap.size∧w.cell? (a.add (i * 3))=some (.int .i64 z.1)∧w.cell? (a.add (i * 3+1))=some (.int .i64 z.2.1)∧w.cell? (a.add (i * 3+2))=some (.string ⟨z.2.2.1.toArray⟩)∧IntKind.i64.has z.1∧IntKind.i64.has z.2.1∧z.2.2.1.length≤maxLen:=by
   rcases hs with ⟨rfl,hx⟩|⟨a,cap,rfl,h1,h2,h3⟩
   ·refine ⟨none,0,by rw [hx]; rfl,by rw [hx]; exact Nat.zero_le _,fun i z hz=>by rw [hx] at hz; cases hz⟩
   ·refine ⟨some a,cap,rfl,by omega,fun i z hz=> ?_⟩
    obtain ⟨_,g2,cs,g3,g4⟩:=h3 i z hz
    obtain ⟨rfl,e1,e2,e3⟩:=qvp g4
    have q0:=g3 0 _ rfl
    have q1:=g3 1 _ rfl
    have q2:=g3 2 _ rfl
    rw [qaQ] at q0 q1 q2
    exact ⟨a,rfl,g2,q0,q1,q2,e1,e2,e3⟩
  obtain ⟨ao,cap,rfl,hn,hel⟩:=key
  refine (hw ao cap x.1 (qrC hT hg ht hz) hn hel hl).mono ?_
  rintro e w' ⟨rfl,hb⟩
  refine ⟨[_],rfl,⟨_,[],rfl,qaN.ofStr _ _ ?_,rfl⟩,qcQ.ofBelow hb⟩
  show (qe0 x.1).length≤maxLen
  unfold maxLen
  omega)
 refine ⟨this.1,fun w F x y args g i a b c d e=>this.2 w F x y args g i a b c d ?_⟩
 show qkf _ (if (qe0 x.1).length≤1099511627776 then some (qe0 x.1,()) else none)=some y
 have e':(if (qe0 x.1).length≤1099511627776 then some ((qe0 x.1,()),()) else none)=some y:=e
 split at e'
 ·rename_i hl
  rw [if_pos hl,qd2]
  exact e'
 ·cases e'
end Go.Proofs.YtnlkfgdojfijpaaGreatDoor
