/- Rows of a tree as they lie in memory: cells, parts, rows of rows; rules for the walk. Maps with stamps as keys, read by a function: facts on it are rewrite rules of the walk. Tables of rows: what lies at a node; depths. Plain: what snap.Right's loops have found up to now. Plain: what turns one tree into another one: moves, what goes to the trash, edits; numbered from a stamp on. Plain: paths as the program and as the document make them. Contracts: differ.trash, snap.last, snap.fixed; tables: of, depth, place; sameData. (ex_ldS_at) Values built of parts: an item of a row, operations of moves and edits. Contracts: slices.Clone of heads, snap.item, snap.right; slices.EqualFunc of heads, differ.sameData. (ex_ldS_at ex_bldT5_at) Contracts: snap.right; slices.EqualFunc of heads, differ.sameData. (ex_ldS_at) Walks: the stable sort of a row of structs: swapRange, rotate, insertionSort, symMerge, stable. (ex_ldR_at) Contract: snap.Right: rows are a tree. (ex_ldS_at, Fr.sameR) -/
import Derived.Test.YtahllkifmmjbdaaDagQKp
import Derived.Test.YtahllkifmmjbdaaFrameOKp
import Derived.Test.YtahllkifmmjbdaaMapRKp
import Derived.Test.YtahllkifmmjbdaaBoxOKp
import Derived.DeepKeys4
import Derived.WideLaws
import Derived.Deep.LoopGhost
import Derived.Test.YtahllkifmmjbdaaStabQKp
import Derived.Test.YtahllkifmmjbdaaRegMKp
import Derived.Sort.WalkA
import Derived.Shelf.RegionOpenPlain
set_option linter.unusedVariables false
set_option linter.unusedSimpArgs false
namespace Go.Proofs.Ytahllkifmmjbdaa
open Go.RowKit
structure RwW where
 Node:St
 Parent:St
 At:St
 Name:List UInt8
 A:Option Addr
 n:Nat
 c:Nat
def zRwW:RwW:=⟨zSt,zSt,zSt,[],none,0,0⟩
end Go.Proofs.Ytahllkifmmjbdaa
namespace Go.Proofs.Ytahllkifmmjbdaa
open Go.RowKit Go.Maps Go.Sort
@[simp] theorem mk_mapT (t:TypeId) (w:World):(Instr.makeMap t none).run Try.prog w = .ok (.map (some w.heap.size)) (w.alloc (.map #[] 0)):=rfl
def PwT (xs:List RwP) (k:Nat):Prop:=∀ i j (h1:i < j) (h2:j < xs.length),j < k → cmpS (xs[i]'(by omega)).Node xs[j].Node < 0
theorem PwT.step {xs:List RwP} {k:Nat} (h:PwT xs k) (hk:k < xs.length) (hc:k = 0 ∨ ∃ (q:Nat) (hq:q + 1 = k),cmpS (xs[q]'(by omega)).Node xs[k].Node < 0):PwT xs (k + 1):=by
 intro i j h1 h2 h3
 by_cases hj:j < k
 ·exact h i j h1 h2 hj
 ·obtain rfl:j = k:=by omega
  rcases hc with rfl | ⟨q,hq,hc⟩
  ·omega
  ·subst hq
   by_cases hi:i = q
   ·subst hi;exact hc
   ·exact cmpS_trans (h i q (by omega) (by omega) (by omega)) hc
theorem PwT.all {xs:List RwP}:PwT xs xs.length ↔ riseR xs = true:=by
 unfold riseR
 rw [riseB_pw (fun a b:RwP=>cmpS a.Node b.Node) (fun _ _ _=>cmpS_trans) xs,List.pairwise_iff_getElem]
 constructor
 ·intro h i j hi hj hij
  exact h i j hij hj hj
 ·intro h i j h1 h2 _
  exact h i j (by omega) h2 h1
structure WayT (xs:List RwP) (s t:St) (way:List St):Prop where
 down:∀ m,reach xs m s = true → ∃ j,m = way.length + j ∧ reach xs j t = true
 up:∀ m,reach xs m t = true → ∃ j,reach xs j s = true
 all:∀ x ∈ way,∀ m,reach xs m t = true → ∃ j,reach xs j x = true
theorem WayT.step {xs:List RwP} {s t:St} {way:List St} (h:WayT xs s t way) (hf:fixedS t = false) {r:RwP} (hr:findR xs t = some r):WayT xs s r.Parent (way ++ [t]):=by
 have e:∀ m,reach xs (m + 1) t = reach xs m r.Parent:=fun m=>by
  show (fixedS t || match findR xs t with | none=>false | some r=>reach xs m r.Parent) = _
  rw [hf,hr,Bool.false_or]
 refine ⟨fun m hm=>?_,fun m hm=>?_,fun x hx m hm=>?_⟩
 ·obtain ⟨j,rfl,hj⟩:=h.down m hm
  cases j with
  | zero =>
   unfold reach at hj
   rw [hf] at hj;cases hj
  | succ j =>
   rw [e] at hj
   exact ⟨j,by simp only [List.length_append,List.length_singleton];omega,hj⟩
 ·exact h.up (m + 1) (by rw [e];exact hm)
 ·rcases List.mem_append.1 hx with hx | hx
  ·exact h.all x hx (m + 1) (by rw [e];exact hm)
  ·rw [List.mem_singleton] at hx
   subst hx
   exact ⟨m + 1,by rw [e];exact hm⟩
end Go.Proofs.Ytahllkifmmjbdaa
namespace Go.Proofs.Ytahllkifmmjbdaa
end Go.Proofs.Ytahllkifmmjbdaa
namespace Go.Proofs.Ytahllkifmmjbdaa
open Go.RowKit
theorem Cod.bxd_box {α:Type} {C:Cod α} (w:World) (x:α):C.bxd (w.alloc (.cells (C.A x) C.t)) w.heap.size = some x:=by
 have h:=Cod.bxd_new (C:=C) w x
 rwa [show C.o x = .cells (C.A x) C.t from by unfold Cod.o;rfl] at h
/-! tables -/
@[irreducible] noncomputable def mkB (t:TypeId) (w:World) (fs:List (Nat × Value)):Result Next:=((Instr.build t fs.toArray).run Try.prog w).andThen (fun v w=>.ok (.value v) w)
/-! the rules of the walk -/
/-! sameData -/
end Go.Proofs.Ytahllkifmmjbdaa
namespace Go.Proofs.Ytahllkifmmjbdaa
open Go.RowKit Go.Sort
instance:Inhabited RwW:=⟨zRwW⟩
end Go.Proofs.Ytahllkifmmjbdaa
namespace Go.Proofs.Ytahllkifmmjbdaa
open Go.RowKit
theorem Fr.own' {w0 w w':World} {e:TypeId} {size n c:Nat} {A:Option Addr} {xs:List Value} (f:Fr noB w0 w) (h:w.ownsRow w0.heap.size e size (.slice A n c) n xs) (hg:w.grownBy w' (A.map (·.block))):Fr noB w0 w' :=
 f.step (Fr.ofGrown (M:=fun b=>A.map (·.block) = some b) hg (fun g hg=>hg)) (fun b hb=>.inl (own_lt h b hb).1)
end Go.Proofs.Ytahllkifmmjbdaa
