/- The abstract interpreter over the model's Code: the operations on data, each under a name of its own. -/
import GoSem.Claims
import Derived.Control
set_option linter.unusedVariables false
set_option linter.unusedSimpArgs false
set_option linter.unnecessarySimpa false
set_option linter.unusedSectionVars false
namespace Go.Vi

/-- A value behind a door: the kernel cannot look through it. -/
noncomputable def sealed {α : Type} (x : α) : { y : α // y = x } := Classical.choice ⟨⟨x, rfl⟩⟩

noncomputable def iadd (k : IntKind) (x y : Int) : Int := (sealed (α := IntKind → Int → Int → Int) fun k x y => k.wrap (x + y)).1 k x y
theorem iadd_def (k : IntKind) (x y : Int) : iadd k x y = (k.wrap (x + y)) := by unfold iadd; rw [(sealed _).2]
noncomputable def isub (k : IntKind) (x y : Int) : Int := (sealed (α := IntKind → Int → Int → Int) fun k x y => k.wrap (x - y)).1 k x y
theorem isub_def (k : IntKind) (x y : Int) : isub k x y = (k.wrap (x - y)) := by unfold isub; rw [(sealed _).2]
noncomputable def imul (k : IntKind) (x y : Int) : Int := (sealed (α := IntKind → Int → Int → Int) fun k x y => k.wrap (x * y)).1 k x y
theorem imul_def (k : IntKind) (x y : Int) : imul k x y = (k.wrap (x * y)) := by unfold imul; rw [(sealed _).2]
noncomputable def iquo (k : IntKind) (x y : Int) : Int := (sealed (α := IntKind → Int → Int → Int) fun k x y => k.wrap (x.tdiv y)).1 k x y
theorem iquo_def (k : IntKind) (x y : Int) : iquo k x y = (k.wrap (x.tdiv y)) := by unfold iquo; rw [(sealed _).2]
noncomputable def irem (x y : Int) : Int := (sealed (α := Int → Int → Int) fun x y => x.tmod y).1 x y
theorem irem_def (x y : Int) : irem x y = (x.tmod y) := by unfold irem; rw [(sealed _).2]
noncomputable def ineg (k : IntKind) (x : Int) : Int := (sealed (α := IntKind → Int → Int) fun k x => k.wrap (0 - x)).1 k x
theorem ineg_def (k : IntKind) (x : Int) : ineg k x = (k.wrap (0 - x)) := by unfold ineg; rw [(sealed _).2]
noncomputable def iwrap (k : IntKind) (x : Int) : Int := (sealed (α := IntKind → Int → Int) fun k x => k.wrap x).1 k x
theorem iwrap_def (k : IntKind) (x : Int) : iwrap k x = (k.wrap x) := by unfold iwrap; rw [(sealed _).2]
noncomputable def band (k : IntKind) (x y : Int) : Int := (sealed (α := IntKind → Int → Int → Int) fun k x y => k.wrap ((BitVec.ofInt k.bits x &&& BitVec.ofInt k.bits y).toNat : Int)).1 k x y
theorem band_def (k : IntKind) (x y : Int) : band k x y = (k.wrap ((BitVec.ofInt k.bits x &&& BitVec.ofInt k.bits y).toNat : Int)) := by unfold band; rw [(sealed _).2]
noncomputable def bor (k : IntKind) (x y : Int) : Int := (sealed (α := IntKind → Int → Int → Int) fun k x y => k.wrap ((BitVec.ofInt k.bits x ||| BitVec.ofInt k.bits y).toNat : Int)).1 k x y
theorem bor_def (k : IntKind) (x y : Int) : bor k x y = (k.wrap ((BitVec.ofInt k.bits x ||| BitVec.ofInt k.bits y).toNat : Int)) := by unfold bor; rw [(sealed _).2]
noncomputable def bxor (k : IntKind) (x y : Int) : Int := (sealed (α := IntKind → Int → Int → Int) fun k x y => k.wrap ((BitVec.ofInt k.bits x ^^^ BitVec.ofInt k.bits y).toNat : Int)).1 k x y
theorem bxor_def (k : IntKind) (x y : Int) : bxor k x y = (k.wrap ((BitVec.ofInt k.bits x ^^^ BitVec.ofInt k.bits y).toNat : Int)) := by unfold bxor; rw [(sealed _).2]
noncomputable def bandnot (k : IntKind) (x y : Int) : Int := (sealed (α := IntKind → Int → Int → Int) fun k x y => k.wrap ((BitVec.ofInt k.bits x &&& ~~~ BitVec.ofInt k.bits y).toNat : Int)).1 k x y
theorem bandnot_def (k : IntKind) (x y : Int) : bandnot k x y = (k.wrap ((BitVec.ofInt k.bits x &&& ~~~ BitVec.ofInt k.bits y).toNat : Int)) := by unfold bandnot; rw [(sealed _).2]
noncomputable def shlI (k : IntKind) (x y : Int) : Int := (sealed (α := IntKind → Int → Int → Int) fun k x y => k.wrap (x * 2 ^ (min y.toNat k.bits))).1 k x y
theorem shlI_def (k : IntKind) (x y : Int) : shlI k x y = (k.wrap (x * 2 ^ (min y.toNat k.bits))) := by unfold shlI; rw [(sealed _).2]
noncomputable def shrI (k : IntKind) (x y : Int) : Int := (sealed (α := IntKind → Int → Int → Int) fun k x y => x.fdiv (2 ^ (min y.toNat k.bits))).1 k x y
theorem shrI_def (k : IntKind) (x y : Int) : shrI k x y = (x.fdiv (2 ^ (min y.toNat k.bits))) := by unfold shrI; rw [(sealed _).2]
noncomputable def eqI (x y : Int) : Bool := (sealed (α := Int → Int → Bool) fun x y => x == y).1 x y
theorem eqI_def (x y : Int) : eqI x y = (x == y) := by unfold eqI; rw [(sealed _).2]
noncomputable def neI (x y : Int) : Bool := (sealed (α := Int → Int → Bool) fun x y => x != y).1 x y
theorem neI_def (x y : Int) : neI x y = (x != y) := by unfold neI; rw [(sealed _).2]
noncomputable def ltI (x y : Int) : Bool := (sealed (α := Int → Int → Bool) fun x y => decide (x < y)).1 x y
theorem ltI_def (x y : Int) : ltI x y = (decide (x < y)) := by unfold ltI; rw [(sealed _).2]
noncomputable def leI (x y : Int) : Bool := (sealed (α := Int → Int → Bool) fun x y => decide (x ≤ y)).1 x y
theorem leI_def (x y : Int) : leI x y = (decide (x ≤ y)) := by unfold leI; rw [(sealed _).2]
noncomputable def maxI (x y : Int) : Int := (sealed (α := Int → Int → Int) fun x y => if y > x then y else x).1 x y
theorem maxI_def (x y : Int) : maxI x y = ((if y > x then y else x)) := by unfold maxI; rw [(sealed _).2]
noncomputable def minI (x y : Int) : Int := (sealed (α := Int → Int → Int) fun x y => if y < x then y else x).1 x y
theorem minI_def (x y : Int) : minI x y = ((if y < x then y else x)) := by unfold minI; rw [(sealed _).2]
noncomputable def eqB (x y : Bool) : Bool := (sealed (α := Bool → Bool → Bool) fun x y => x == y).1 x y
theorem eqB_def (x y : Bool) : eqB x y = (x == y) := by unfold eqB; rw [(sealed _).2]
noncomputable def eqS (x y : List UInt8) : Bool := (sealed (α := (List UInt8) → (List UInt8) → Bool) fun x y => x == y).1 x y
theorem eqS_def (x y : List UInt8) : eqS x y = (x == y) := by unfold eqS; rw [(sealed _).2]
noncomputable def bless (x y : List UInt8) : Bool := (sealed (α := (List UInt8) → (List UInt8) → Bool) fun x y => Op.bytesLess x y).1 x y
theorem bless_def (x y : List UInt8) : bless x y = (Op.bytesLess x y) := by unfold bless; rw [(sealed _).2]
noncomputable def lenI {α : Type} (xs : List α) : Int := (sealed (α := (List α) → Int) fun xs => (xs.length : Int)).1 xs
theorem lenI_def {α : Type} (xs : List α) : lenI xs = ((xs.length : Int)) := by unfold lenI; rw [(sealed _).2]
noncomputable def lget {α : Type} (xs : List α) (i : Int) (d : α) : α := (sealed (α := (List α) → Int → α → α) fun xs i d => xs.getD i.toNat d).1 xs i d
theorem lget_def {α : Type} (xs : List α) (i : Int) (d : α) : lget xs i d = (xs.getD i.toNat d) := by unfold lget; rw [(sealed _).2]
noncomputable def lset {α : Type} (xs : List α) (i : Int) (x : α) : List α := (sealed (α := (List α) → Int → α → (List α)) fun xs i x => xs.set i.toNat x).1 xs i x
theorem lset_def {α : Type} (xs : List α) (i : Int) (x : α) : lset xs i x = (xs.set i.toNat x) := by unfold lset; rw [(sealed _).2]
noncomputable def lapp {α : Type} (xs ys : List α) : List α := (sealed (α := (List α) → (List α) → (List α)) fun xs ys => xs ++ ys).1 xs ys
theorem lapp_def {α : Type} (xs ys : List α) : lapp xs ys = (xs ++ ys) := by unfold lapp; rw [(sealed _).2]
noncomputable def lslice {α : Type} (xs : List α) (lo hi : Int) : List α := (sealed (α := (List α) → Int → Int → (List α)) fun xs lo hi => (xs.take hi.toNat).drop lo.toNat).1 xs lo hi
theorem lslice_def {α : Type} (xs : List α) (lo hi : Int) : lslice xs lo hi = ((xs.take hi.toNat).drop lo.toNat) := by unfold lslice; rw [(sealed _).2]
noncomputable def lrep {α : Type} (n : Int) (x : α) : List α := (sealed (α := Int → α → (List α)) fun n x => List.replicate n.toNat x).1 n x
theorem lrep_def {α : Type} (n : Int) (x : α) : lrep n x = (List.replicate n.toNat x) := by unfold lrep; rw [(sealed _).2]
/-- copy(xs[lo:hi], ys): how many, and what xs is then. -/
noncomputable def cpyN {α : Type} (lo hi : Int) (ys : List α) : Int := (sealed (α := Int → Int → (List α) → Int) fun lo hi ys => ((min ys.length (hi - lo).toNat : Nat) : Int)).1 lo hi ys
theorem cpyN_def {α : Type} (lo hi : Int) (ys : List α) : cpyN lo hi ys = (((min ys.length (hi - lo).toNat : Nat) : Int)) := by unfold cpyN; rw [(sealed _).2]
noncomputable def cpyL {α : Type} (xs : List α) (lo hi : Int) (ys : List α) : List α := (sealed (α := (List α) → Int → Int → (List α) → (List α)) fun xs lo hi ys => xs.take lo.toNat ++ ys.take (min ys.length (hi - lo).toNat) ++ xs.drop (lo.toNat + min ys.length (hi - lo).toNat)).1 xs lo hi ys
theorem cpyL_def {α : Type} (xs : List α) (lo hi : Int) (ys : List α) : cpyL xs lo hi ys = (xs.take lo.toNat ++ ys.take (min ys.length (hi - lo).toNat) ++ xs.drop (lo.toNat + min ys.length (hi - lo).toNat)) := by unfold cpyL; rw [(sealed _).2]
noncomputable def byteI (b : UInt8) : Int := (sealed (α := UInt8 → Int) fun b => (b.toNat : Int)).1 b
theorem byteI_def (b : UInt8) : byteI b = ((b.toNat : Int)) := by unfold byteI; rw [(sealed _).2]
noncomputable def bytesI (xs : List UInt8) : List Int := (sealed (α := (List UInt8) → (List Int)) fun xs => xs.map byteI).1 xs
theorem bytesI_def (xs : List UInt8) : bytesI xs = (xs.map byteI) := by unfold bytesI; rw [(sealed _).2]
noncomputable def intsB (xs : List Int) : List UInt8 := (sealed (α := (List Int) → (List UInt8)) fun xs => xs.map fun n => UInt8.ofNat n.toNat).1 xs
theorem intsB_def (xs : List Int) : intsB xs = (xs.map fun n => UInt8.ofNat n.toNat) := by unfold intsB; rw [(sealed _).2]
noncomputable def inB (i n : Int) : Bool := (sealed (α := Int → Int → Bool) fun i n => decide (0 ≤ i) && decide (i < n)).1 i n
theorem inB_def (i n : Int) : inB i n = (decide (0 ≤ i) && decide (i < n)) := by unfold inB; rw [(sealed _).2]
noncomputable def inS (lo hi n : Int) : Bool := (sealed (α := Int → Int → Int → Bool) fun lo hi n => decide (0 ≤ lo) && (decide (lo ≤ hi) && decide (hi ≤ n))).1 lo hi n
theorem inS_def (lo hi n : Int) : inS lo hi n = (decide (0 ≤ lo) && (decide (lo ≤ hi) && decide (hi ≤ n))) := by unfold inS; rw [(sealed _).2]
/-- Room for n elements of b bytes each. -/
noncomputable def room (n : Int) (b : Nat) : Bool := (sealed (α := Int → Nat → Bool) fun n b => decide (0 ≤ n) && decide (n * (b : Int) ≤ 140737488355328)).1 n b
theorem room_def (n : Int) (b : Nat) : room n b = (decide (0 ≤ n) && decide (n * (b : Int) ≤ 140737488355328)) := by unfold room; rw [(sealed _).2]
noncomputable def room2 (n m : Int) (b : Nat) : Bool := (sealed (α := Int → Int → Nat → Bool) fun n m b => decide ((n + m) * (b : Int) ≤ 140737488355328)).1 n m b
theorem room2_def (n m : Int) (b : Nat) : room2 n m b = (decide ((n + m) * (b : Int) ≤ 140737488355328)) := by unfold room2; rw [(sealed _).2]
noncomputable def oSome {α : Type} (x : Option α) : Bool := (sealed (α := (Option α) → Bool) fun x => x.isSome).1 x
theorem oSome_def {α : Type} (x : Option α) : oSome x = (x.isSome) := by unfold oSome; rw [(sealed _).2]
noncomputable def oGet {α : Type} (x : Option α) (d : α) : α := (sealed (α := (Option α) → α → α) fun x d => x.getD d).1 x d
theorem oGet_def {α : Type} (x : Option α) (d : α) : oGet x d = (x.getD d) := by unfold oGet; rw [(sealed _).2]
/-- A value under a name. -/
noncomputable def letJ {α β : Type} (x : α) (f : α → β) : β := (sealed (α := α → (α → β) → β) fun x f => f x).1 x f
theorem letJ_def {α β : Type} (x : α) (f : α → β) : letJ x f = f x := by unfold letJ; rw [(sealed _).2]
/-- What comes of it, turned. -/
noncomputable def omap {α β : Type} (f : α → β) (x : Option α) : Option β := (sealed (α := (α → β) → (Option α) → Option β) fun f x => x.map f).1 f x
theorem omap_def {α β : Type} (f : α → β) (x : Option α) : omap f x = (x.map f) := by unfold omap; rw [(sealed _).2]
/-- What both yield. -/
noncomputable def agree {α : Type} (x y : Option α) : Option α := (sealed (α := (Option α) → (Option α) → (Option α)) fun x y => open Classical in if x = y then x else none).1 x y
open Classical in
theorem agree_def {α : Type} (x y : Option α) : agree x y = (if x = y then x else none) := by unfold agree; rw [(sealed _).2]
/-! ## Maps: their entries as they came -/
open Classical in
/-- Where a key stands; past the end if nowhere. -/
noncomputable def mIdx {α β : Type} (xs : List (α × β)) (k : α) : Nat := xs.findIdx fun p => decide (p.1 = k)
def mSetL {α β : Type} (xs : List (α × β)) (i : Nat) (v : β) : List (α × β) := match xs[i]? with
  | some p => xs.set i (p.1, v)
  | none => xs
noncomputable def mhas {α β : Type} (xs : List (α × β)) (k : α) : Bool := (sealed (α := List (α × β) → α → Bool) fun xs k => decide (mIdx xs k < xs.length)).1 xs k
theorem mhas_def {α β : Type} (xs : List (α × β)) (k : α) : mhas xs k = decide (mIdx xs k < xs.length) := by unfold mhas; rw [(sealed _).2]
noncomputable def mget {α β : Type} (xs : List (α × β)) (k : α) (d : β) : β := (sealed (α := List (α × β) → α → β → β) fun xs k d => ((xs[mIdx xs k]?).map (·.2)).getD d).1 xs k d
theorem mget_def {α β : Type} (xs : List (α × β)) (k : α) (d : β) : mget xs k d = ((xs[mIdx xs k]?).map (·.2)).getD d := by unfold mget; rw [(sealed _).2]
/-- The entry of a key is there. -/
noncomputable def ment {α β : Type} (xs : List (α × β)) (k : α) (d : β) : List (α × β) := (sealed (α := List (α × β) → α → β → List (α × β)) fun xs k d => if mIdx xs k < xs.length then xs else xs ++ [(k, d)]).1 xs k d
theorem ment_def {α β : Type} (xs : List (α × β)) (k : α) (d : β) : ment xs k d = if mIdx xs k < xs.length then xs else xs ++ [(k, d)] := by unfold ment; rw [(sealed _).2]
noncomputable def mpos {α β : Type} (xs : List (α × β)) (k : α) : Int := (sealed (α := List (α × β) → α → Int) fun xs k => (mIdx xs k : Int)).1 xs k
theorem mpos_def {α β : Type} (xs : List (α × β)) (k : α) : mpos xs k = (mIdx xs k : Int) := by unfold mpos; rw [(sealed _).2]
noncomputable def mset {α β : Type} (xs : List (α × β)) (i : Int) (v : β) : List (α × β) := (sealed (α := List (α × β) → Int → β → List (α × β)) fun xs i v => mSetL xs i.toNat v).1 xs i v
theorem mset_def {α β : Type} (xs : List (α × β)) (i : Int) (v : β) : mset xs i v = mSetL xs i.toNat v := by unfold mset; rw [(sealed _).2]
noncomputable def mput {α β : Type} (xs : List (α × β)) (k : α) (v : β) : List (α × β) := (sealed (α := List (α × β) → α → β → List (α × β)) fun xs k v => if mIdx xs k < xs.length then mSetL xs (mIdx xs k) v else xs ++ [(k, v)]).1 xs k v
theorem mput_def {α β : Type} (xs : List (α × β)) (k : α) (v : β) : mput xs k v = if mIdx xs k < xs.length then mSetL xs (mIdx xs k) v else xs ++ [(k, v)] := by unfold mput; rw [(sealed _).2]
/-- A loop: at most n rounds. -/
def iterF {S R : Type} (n : Nat) (step : (S → Option R) → S → Option R) : S → Option R :=
  match n with
  | 0 => fun _ => none
  | n + 1 => step (iterF n step)

end Go.Vi
