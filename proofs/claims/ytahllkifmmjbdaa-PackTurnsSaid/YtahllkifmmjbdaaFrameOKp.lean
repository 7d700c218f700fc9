/- Stamps as values that the walk never looks into: contracts of stamp.Right, fixed, Cmp, get, put; obj.getAt, at. Parts of operations, items, commits, tags. Drawn regions whose operations read, and whose callees make new memory alone and hand back one value: one walk in the text's order. Plain: UTF-8: bytes of 128 or more give runes of 128 or more, and are decoded apart from lesser ones. Contracts: strings.IndexRune at runes of 128 or more, strings.IndexAny and ContainsAny at "\x00/\n"; stamp.Name. Contracts: strings.IndexAny, ContainsAny at "\x00/\n"; stamp.Name. Contract: obj.rise of IDs. Equality of stamps as values. Contracts: stamp.Name, stamp.move, stamp.edit, stamp.Good. Contract: stamp.edit. Contract: stamp.Good. Contracts: slices.IndexFunc, slices.ContainsFunc, obj.rise with closures. Contracts: the closures of obj.rightItem, rightDir, rightChange; rightItem, rightDir, rightLabel. Contracts: slices.Index and Contains of IDs, the closures of obj.rightChange, obj.rightChange. Contracts: stamp.put, obj.at. Contracts: obj.open. Variables that a reader's function fills: stores into parts of a value; the state of a reader with two such variables. Contract: stamp.Get. Contract: obj.getItem. Contracts: bytes.Clone, obj.Blob, obj.Label. Contract: obj.Dir. Contract: obj.Change. Contract: stamp.Put. (ex_ldS_at) Contracts: obj.PutBlob, obj.PutLabel. (ex_ldS_at) Contract: obj.PutChange. Contract: obj.PutDir. (ex_ldS_at) The frame of a law's proof over package obj's types: arguments of types api.Stamp, api.Head, api.Op, api.Item, api.Change, api.Label and slices of them, opened. -/
import Derived.Test.YtahllkifmmjbdaaStabQKp
import Derived.Test.YtahllkifmmjbdaaRdrWKp
import Derived.Test.YtahllkifmmjbdaaRdrIdKp
import Derived.Deep.Quiet
import Derived.Laws.RangeString
import Derived.Lib.IndexAny
import Derived.Test.YtahllkifmmjbdaaStWKp
import Derived.Test.YtahllkifmmjbdaaStrsKp
import Derived.Test.YtahllkifmmjbdaaShelfKp
import Derived.Deep.QuietTactic
import Derived.BigQuiet
import Derived.Deep.LoopGhost
import Derived.IntWalk
import Derived.WalkMore
import Derived.Lib.OthersKept
import Derived.Test.YtahllkifmmjbdaaBoxOKp
import Derived.Test.YtahllkifmmjbdaaIdRowKp
import Derived.Laws.StructEq
import Derived.Test.YtahllkifmmjbdaaRegMKp
import Derived.Laws.ResultCell
import Derived.Test.YtahllkifmmjbdaaRdQKp
import Derived.Test.YtahllkifmmjbdaaRows
import Derived.WalkKit
import Derived.ProofKit
import Derived.OpenShut
import Derived.ShutString
import Derived.ChangeOld
import Derived.Below
import Derived.SizedLaws
import Derived.Deep.Slices
set_option linter.unusedVariables false
set_option linter.unusedSimpArgs false
namespace Go.Proofs.Ytahllkifmmjbdaa
open Go.RowKit
/-! parts -/
end Go.Proofs.Ytahllkifmmjbdaa
namespace Go.Proofs.Ytahllkifmmjbdaa
open Go.RowKit
structure Same (n:Nat) (w w':World):Prop where
 cell:∀ b o,b < n → w'.cell? ⟨b,o,none⟩ = w.cell? ⟨b,o,none⟩
 st:∀ b o,b < n → rdI w' b o = rdI w b o
 id:∀ b o,b < n → rdI w' b o = rdI w b o
 hd:∀ b o,b < n → rdI w' b o = rdI w b o
 op:∀ b o,b < n → rdI w' b o = rdI w b o
 it:∀ b o,b < n → rdI w' b o = rdI w b o
theorem Fr.same {w w':World} (f:Fr noB w w'):Same w.heap.size w w':=by
 refine ⟨fun b o h=>World.cell?_of_block (a:=⟨b,o,none⟩) (f.block b h (by simp [noB])),?_,?_,?_,?_,?_⟩ <;> (intro b o h;first | exact rdI_keep (f.block b h (by simp [noB])) | exact Cod.rd_keep (f.block b h (by simp [noB])))
@[irreducible] def wpQ (P:Program) (ops:Array Oper) (C:World → Prop) (Q:Act → Prop) (l:List Oper) (a:Act):Prop:=wpQuiet P ops C Q l a
section
variable {P:Program} {ops:Array Oper} {C:World → Prop} {Q:Act → Prop} {o:Oper} {rest:List Oper} {a:Act} {v:Value}
theorem wpQ_take (hw:Region.wanted o (yielded ops a.tmps) = true) (h:∀ w,C w → (execOp a.eval o).run P w = .ok (.value v) w) (k:wpQ P ops C Q rest (a.put o.dst v)):wpQ P ops C Q (o :: rest) a:=by
 unfold wpQ at k ⊢
 unfold wpQuiet
 rw [if_pos hw]
 refine ⟨v,fun w hC=>?_,k⟩
 unfold Oper.quietAt
 rw [h w hC]
 exact ⟨rfl,rfl⟩
theorem wpQ_call (hw:Region.wanted o (yielded ops a.tmps) = true) (h:∀ w,C w → ∃ f args,(execOp a.eval o).run P w = .ok (.enter f args) w ∧ Calls P f args w (fun e w''=>e = .returned v ∧ C w'')) (k:wpQ P ops C Q rest (a.put o.dst v)):wpQ P ops C Q (o :: rest) a:=by
 unfold wpQ at k ⊢
 unfold wpQuiet
 rw [if_pos hw]
 refine ⟨v,fun w hC=>?_,k⟩
 obtain ⟨f,args,h1,h2⟩:=h w hC
 unfold Oper.quietAt
 rw [h1]
 exact ⟨rfl,h2⟩
theorem wpQ_off (hw:Region.wanted o (yielded ops a.tmps) = false) (k:wpQ P ops C Q rest (a.put o.dst undef)):wpQ P ops C Q (o :: rest) a:=by
 unfold wpQ at k ⊢
 unfold wpQuiet
 rw [if_neg (by rw [hw];exact Bool.false_ne_true)]
 exact k
theorem wpQ_nil (h:Q a):wpQ P ops C Q [] a:=by
 unfold wpQ
 exact h
theorem Calls.fr {f:FuncId} {args:Array Value} {W w:World} (hC:Fr noB W w) (h:Calls P f args w (Gives w v)):Calls P f args w (fun e w''=>e = .returned v ∧ Fr noB W w'') :=
 h.mono fun _ _ ⟨h1,h2⟩=>⟨h1,hC.step0 h2⟩
theorem wp_region_fr {id:Nat} {Q:Exit → Act → World → Prop} {a:Act} {w:World} {l:List Oper} (hm:P.follows .mixedOrders = true) (hB:Region.lexB .any l.toArray = true)
  (h:wpQ P l.toArray (Fr noB w) (fun a'=>∀ w',Fr noB w w' → Q .normal a' w') l a):(Code.region id l.toArray true).wp P Q a w:=by
 unfold wpQ at h
 exact wp_region_quiet (C:=Fr noB w) hm hB (Fr.refl noB w).drew (by simpa using h)
end
end Go.Proofs.Ytahllkifmmjbdaa
namespace Go.Proofs.Ytahllkifmmjbdaa
end Go.Proofs.Ytahllkifmmjbdaa
namespace Go.Proofs.Ytahllkifmmjbdaa
open Go.RowKit
@[irreducible] noncomputable def cvR (w:World) (v:Value):Result Next:=((convert 21 9 v).run Try.prog w).andThen (fun v w=>.ok (.value v) w)
end Go.Proofs.Ytahllkifmmjbdaa
namespace Go.Proofs.Ytahllkifmmjbdaa
open Go.RowKit
end Go.Proofs.Ytahllkifmmjbdaa
namespace Go.Proofs.Ytahllkifmmjbdaa
open Go.RowKit
end Go.Proofs.Ytahllkifmmjbdaa
namespace Go.Proofs.Ytahllkifmmjbdaa
open Go.RowKit
end Go.Proofs.Ytahllkifmmjbdaa
namespace Go.Proofs.Ytahllkifmmjbdaa
open Go.RowKit
end Go.Proofs.Ytahllkifmmjbdaa
namespace Go.Proofs.Ytahllkifmmjbdaa
open Go.RowKit
end Go.Proofs.Ytahllkifmmjbdaa
namespace Go.Proofs.Ytahllkifmmjbdaa
open Go.RowKit
end Go.Proofs.Ytahllkifmmjbdaa
namespace Go.Proofs.Ytahllkifmmjbdaa
open Go.RowKit
end Go.Proofs.Ytahllkifmmjbdaa
namespace Go.Proofs.Ytahllkifmmjbdaa
open Go.RowKit
end Go.Proofs.Ytahllkifmmjbdaa
namespace Go.Proofs.Ytahllkifmmjbdaa
open Go.RowKit
theorem NewBytes.sl {w w':World} {l:List UInt8} {A:Option Addr} {c:Nat} (h:w'.ownsRow w.heap.size 5 1 (.slice A l.length c) l.length (bv l)):Sl w' A (bv l):=Sl.own h
end Go.Proofs.Ytahllkifmmjbdaa
namespace Go.Proofs.Ytahllkifmmjbdaa
open Go.RowKit
end Go.Proofs.Ytahllkifmmjbdaa
namespace Go.Proofs.Ytahllkifmmjbdaa
open Go.RowKit
/-! '.. {a}': the first field given -/
/-! stores into parts -/
theorem step_runI {P:Program} {w:World} {ops:Array Oper} {o:Oper} {a:Act} {K:Act → World → Prop} {Q:Exit → Act → World → Prop} {E:Prop} (hgd:o.guard = none) (v:Value) (w':World)
  (hr:(execOp a.eval o).run P w = .ok (.value v) w') (h:K (a.put o.dst v) w'):if Region.wanted o (yielded ops a.tmps) = true then Oper.wp P o a w K Q else E:=by
 have hw:Region.wanted o (yielded ops a.tmps) = true:=by simp [Region.wanted,hgd]
 rw [if_pos hw]
 unfold Oper.wp
 rw [hr]
 exact h
/-! contracts whose outcome is named -/
/-! a reader, the result's variable, and one more -/
structure RB {α:Type} (C:Cod α) (M:Nat → Prop) (W w:World) (p R P:Nat) (s:RS) (Q:Nat → Prop) (z r:α):Prop where
 rd:Rdr w p s Q
 rs:C.bxd w R = some z
 bx:C.bxd w P = some r
 fr:Fr M W w
 mp:p < W.heap.size → M p
 RW:W.heap.size ≤ R
 PW:W.heap.size ≤ P
 ne1:R ≠ P
 ne2:p ≠ R
 ne3:p ≠ P
 q1:∀ b,Q b → b ≠ R ∧ b ≠ P
 qp:¬ Q p
section
variable {α:Type} {C:Cod α} {M:Nat → Prop} {W w:World} {p R P:Nat} {s:RS} {Q:Nat → Prop} {z r:α}
theorem RB.lt (h:RB C M W w p R P s Q z r):R < w.heap.size ∧ P < w.heap.size ∧ p < w.heap.size:=⟨Cod.bxd_lt h.rs,Cod.bxd_lt h.bx,h.rd.lt⟩
theorem own_new0 {base:Nat} {e:TypeId} {size n:Nat} {v:Value} {xs:List Value} {w':World} (h:w.ownsRow base e size v n xs) (f:Fr noB w w'):w'.ownsRow base e size v n xs :=
 own_fr h f (fun g' hg' hM=>by simp [noB] at hM)
end
section
variable {α:Type} {C:Cod α} (H:CodOk Try.prog C)
include H
end
end Go.Proofs.Ytahllkifmmjbdaa
namespace Go.Proofs.Ytahllkifmmjbdaa
open Go.RowKit
end Go.Proofs.Ytahllkifmmjbdaa
namespace Go.Proofs.Ytahllkifmmjbdaa
open Go.RowKit
theorem own_lt {w:World} {base:Nat} {e:TypeId} {size n c:Nat} {A:Option Addr} {xs:List Value} (h:w.ownsRow base e size (.slice A n c) n xs) (g:Nat) (hg:A.map (·.block) = some g):base ≤ g ∧ g < w.heap.size:=by
 have:=h.lt g (by rw [ownBlock_sl'];exact hg)
 exact this
end Go.Proofs.Ytahllkifmmjbdaa
namespace Go.Proofs.Ytahllkifmmjbdaa
open Go.RowKit
end Go.Proofs.Ytahllkifmmjbdaa
namespace Go.Proofs.Ytahllkifmmjbdaa
open Go.RowKit
section
variable {W w w':World} {p:Nat} {Q:Nat → Prop} {s s':RS} {A:Option Addr} {c:Nat} {rs:List ItW} {xs:List It}
end
end Go.Proofs.Ytahllkifmmjbdaa
namespace Go.Proofs.Ytahllkifmmjbdaa
open Go.RowKit
section
variable {W w w':World} {A B:Option Addr} {c d:Nat} {ps:List ID} {rs:List OpW} {os:List Opn}
end
end Go.Proofs.Ytahllkifmmjbdaa
namespace Go.Proofs.Ytahllkifmmjbdaa
open Go.RowKit
end Go.Proofs.Ytahllkifmmjbdaa
namespace Go.Proofs.Ytahllkifmmjbdaa
open Go.RowKit
theorem own_cap {w:World} {base:Nat} {e:TypeId} {size n c:Nat} {A:Option Addr} {xs:List Value} (h:w.ownsRow base e size (.slice A n c) n xs):n ≤ c:=by
 obtain ⟨A',c',ev,hcc,_⟩:=own_form h
 injection ev with e1 e2 e3
 omega
end Go.Proofs.Ytahllkifmmjbdaa
namespace Go.Proofs.Ytahllkifmmjbdaa
open Go.RowKit
end Go.Proofs.Ytahllkifmmjbdaa
namespace Go.Proofs.Ytahllkifmmjbdaa
open Go.RowKit
theorem Fr.own {w0 w w':World} {A:Option Addr} {n c:Nat} {xs:List Value} (f:Fr noB w0 w) (h:w.ownsRow w0.heap.size 5 1 (.slice A n c) n xs) (hg:w.grownBy w' (A.map (·.block))):Fr noB w0 w' :=
 f.step (Fr.ofGrown (M:=fun b=>A.map (·.block) = some b) hg (fun g hg=>hg)) (fun b hb=>.inl (own_lt h b hb).1)
end Go.Proofs.Ytahllkifmmjbdaa
namespace Go.Proofs.Ytahllkifmmjbdaa
open Go.ChangeShapes Go.WideShapes Go.ChangeAt Go.RowKit Go.Deep
theorem own:ownKnob Try.prog.godebug = none:=by kernel_rfl
theorem laidOut:laidOutB Try.prog = true:=by kernel_rfl
theorem list_of_all {α:Type} {Q:Nat → α → Prop} (n:Nat) (h:∀ i,i < n → ∃ p,Q i p):∃ ps:List α,ps.length = n ∧ ∀ i (hi:i < ps.length),Q i ps[i]:=by
 induction n with
 | zero=>exact ⟨[],rfl,fun i hi=>by simp at hi⟩
 | succ n ih =>
  obtain ⟨ps,hl,hq⟩:=ih (fun i hi=>h i (by omega))
  obtain ⟨p,hp⟩:=h n (by omega)
  refine ⟨ps ++ [p],by simp [hl],fun i hi=>?_⟩
  by_cases hi':i < ps.length
  ·rw [List.getElem_append_left hi'];exact hq i hi'
  ·have:i = ps.length:=by simp at hi;omega
   subst this
   simp only [List.getElem_append_right (Nat.le_refl _),Nat.sub_self,List.getElem_cons_zero]
   rw [hl];exact hp
theorem u8_wf {a:Int} (h:(Lit.int .u8 a).wf = true):0 ≤ a ∧ a < 256:=by
 simp [Lit.wf] at h
 have e1:IntKind.u8.min = 0:=rfl
 have e2:IntKind.u8.max = 255:=rfl
 rw [e1,e2] at h
 omega
section
variable {H:Type} {enc:TypeId × Value → H} {W:World}
def Td (enc:TypeId × Value → H) (W:World) (fuel:Nat) (t:TypeId) (cs:List Value) (x:DataW H × List MemPlace):Prop :=
 DataW.trod enc Try.prog W 0 (fun _=>true) true fuel t cs = some x ∧ ∀ n ∈ x.1.weights Try.prog t,n ≤ reachBytes
theorem wAll_mem {e:TypeId} {d:DataW H} {l:List (DataW H)} (hd:d ∈ l) {n:Nat} (hn:n ∈ d.weights Try.prog e):n ∈ DataW.weightsAll Try.prog e l:=by
 induction l with
 | nil=>simp at hd
 | cons y l ih =>
  simp only [DataW.weightsAll,List.mem_append]
  rcases List.mem_cons.1 hd with rfl | h
  ·exact .inl hn
  ·exact .inr (ih h)
set_option maxRecDepth 100000 in
theorem td_slk {α:Type} (C:Cod α) {R:α → Prop} {ts:TypeId} (hts:Try.prog.underlying ts = some (.slice C.t)) (hC:Try.prog.cellsOf C.t = C.n) {k:Nat} (hk:1 ≤ k) (hB:k ≤ Try.prog.bytesOf C.t)
  (hel:∀ n cs x,Td enc W n C.t cs x → ∃ a,cs = C.cs a ∧ R a) {fuel:Nat} {cs:List Value} {x:DataW H × List MemPlace} (h:Td enc W fuel ts cs x) :
  ∃ (B:Option Addr) (xs:List α) (c:Nat),cs = [.slice B xs.length c] ∧ Sl W B (C.row xs) ∧ xs.length * k ≤ 140737488355328 ∧ xs.length ≤ c ∧ ∀ i (hi:i < xs.length),R xs[i]:=by
 obtain ⟨h,hw⟩:=h
 rcases open_slice hts h with ⟨hcs,_⟩ | ⟨a,l,c,m,n,D,Pl,hcs,_,hl,hm,hmm,rfl,hall⟩
 ·exact ⟨none,[],0,hcs,Sl.nil _ _,by simp,by simp,fun i hi=>by simp at hi⟩
 ·simp only [if_true] at hmm
  subst hmm
  simp only [DataW.weights,hts] at hw
  have hwl:l * k ≤ 140737488355328:=by
   have h1:=hw _ (List.mem_cons_self ..)
   simp only [List.length_map,List.length_range,reachBytes] at h1
   have h2:=Nat.mul_le_mul_left (l + (m - l)) hB
   have h3:=Nat.mul_le_mul_right k (show l ≤ l + (m - l) by omega)
   omega
  rw [hC] at hall
  have hp:∀ i,i < l → ∃ y:α,(∀ j (v:Value),(C.cs y)[j]? = some v → W.cell? ((a.add (i * C.n)).add j) = some v) ∧ R y:=by
   intro i hi
   obtain ⟨cs',hc,ht⟩:=hall i (by omega)
   obtain ⟨_,hcl,hat⟩:=World.cells?_some hc
   obtain ⟨y,rfl,hr⟩:=hel _ _ _ ⟨ht,fun k hk=>hw k (List.mem_cons_of_mem _ (List.mem_append_left _ (wAll_mem (List.mem_map.2 ⟨i,List.mem_range.2 hi,rfl⟩) hk)))⟩
   refine ⟨y,fun j v hv=>?_,hr⟩
   have hj:j < C.n:=by have:=(List.getElem?_eq_some_iff.1 hv).1;rw [C.len] at this;exact this
   exact (hat j hj).trans hv
  obtain ⟨ps,hpl,hq⟩:=list_of_all l hp
  refine ⟨some a,ps,_,by rw [hpl];exact hcs,fun hne=>?_,by rw [hpl];exact hwl,by omega,fun i hi=>(hq i hi).2⟩
  obtain ⟨g,off,spot⟩:=a
  have hpos:0 < ps.length:=by
   rcases Nat.eq_zero_or_pos ps.length with h0 | h0
   ·have:ps = []:=List.eq_nil_of_length_eq_zero h0
    subst this;simp [Cod.row] at hne
   ·exact h0
  have hn:=C.pos
  have h00:=(hq 0 hpos).1 0 _ (List.getElem?_eq_getElem (by rw [C.len];exact hn))
  have hspot:spot = none:=by simpa [Addr.add] using World.cell?_spot h00
  subst hspot
  have hadd:∀ (o j:Nat),(⟨g,o,none⟩:Addr).add j = ⟨g,o + j,none⟩:=by intro o j;unfold Addr.add;split <;> simp_all
  refine ⟨g,off,rfl,World.block_lt_of_cell? _ _ (by rw [hadd,hadd] at h00;exact h00),fun j u hu=>?_⟩
  have hjl:j < ps.length * C.n:=by have:=(List.getElem?_eq_some_iff.1 hu).1;rw [Cod.row_len] at this;exact this
  have hi:j / C.n < ps.length:=Nat.div_lt_of_lt_mul (by rw [Nat.mul_comm];exact hjl)
  have hk:j % C.n < (C.cs ps[j / C.n]).length:=by rw [C.len];exact Nat.mod_lt _ hn
  have h1:=(hq (j / C.n) hi).1 (j % C.n) _ (List.getElem?_eq_getElem hk)
  have h2:=Cod.row_get ps (j / C.n) (j % C.n) hi _ (List.getElem?_eq_getElem hk)
  have hdm:j / C.n * C.n + j % C.n = j:=Nat.div_add_mod' j C.n
  rw [hdm] at h2
  rw [h2] at hu
  injection hu with hu
  rw [← hu]
  rw [hadd,hadd,Nat.add_assoc,hdm] at h1
  exact h1
theorem td_sl {α:Type} (C:Cod α) {R:α → Prop} {ts:TypeId} (hts:Try.prog.underlying ts = some (.slice C.t)) (hC:Try.prog.cellsOf C.t = C.n) (hB:1 ≤ Try.prog.bytesOf C.t)
  (hel:∀ n cs x,Td enc W n C.t cs x → ∃ a,cs = C.cs a ∧ R a) {fuel:Nat} {cs:List Value} {x:DataW H × List MemPlace} (h:Td enc W fuel ts cs x) :
  ∃ (B:Option Addr) (xs:List α) (c:Nat),cs = [.slice B xs.length c] ∧ Sl W B (C.row xs) ∧ xs.length ≤ 140737488355328 ∧ xs.length ≤ c ∧ ∀ i (hi:i < xs.length),R xs[i]:=by
 obtain ⟨B,xs,c,h1,h2,h3,h4⟩:=td_slk C hts hC (Nat.le_refl 1) hB hel h
 exact ⟨B,xs,c,h1,h2,by omega,h4⟩
/-! the types of package api -/
theorem wt_arg {ts:List TypeId} {ds:List (DataW H)} (h:(DataW.weightsEach Try.prog ts ds).all (· ≤ reachBytes) = true) {j:Nat} {t:TypeId} {d:DataW H} (ht:ts[j]? = some t) (hd:ds[j]? = some d):∀ n ∈ d.weights Try.prog t,n ≤ reachBytes:=fun n hn=>by
 simpa using List.all_eq_true.1 h n (DataW.weights_mem_each ht hd n hn)
theorem list_R {α β:Type} {R:α → β → Prop} {l:List α} (h:∀ i (hi:i < l.length),∃ b,R l[i] b):∃ m:List β,l.length = m.length ∧ ∀ i (h1:i < l.length) (h2:i < m.length),R l[i] m[i]:=by
 obtain ⟨m,hm,hq⟩:=list_of_all (Q:=fun i b=>∃ hi:i < l.length,R l[i] b) l.length (fun i hi=>by obtain ⟨b,hb⟩:=h i hi;exact ⟨b,hi,hb⟩)
 exact ⟨m,hm.symm,fun i h1 h2=>(hq i h2).2⟩
/-! bytes -/
def codBF:Cod UInt8:=⟨5,1,fun b=>[u8v b],0,fun _=>rfl,by decide,fun x u hu=>by
 rw [List.mem_singleton] at hu
 subst hu;rfl,fun x y h=>by
 have h2:u8v x = u8v y:=by injection h
 unfold u8v at h2
 injection h2 with _ h2
 exact UInt8.toNat_inj.1 (by omega)⟩
theorem row_B (l:List UInt8):codBF.row l = bv l:=by
 unfold Cod.row bv
 induction l with
 | nil=>rfl
 | cons x l ih=>rw [List.flatMap_cons,ih];rfl
theorem td_u8 {fuel:Nat} {cs:List Value} {x:DataW H × List MemPlace} (h:Td enc W fuel 5 cs x):∃ b:UInt8,cs = codBF.cs b ∧ True:=by
 obtain ⟨a,rfl,_,hw⟩:=DataW.trod_int Try.underlying5 h.1
 have hb:=u8_wf hw
 refine ⟨UInt8.ofNat a.toNat,?_,trivial⟩
 show _ = [u8v _]
 unfold u8v
 rw [UInt8.toNat_ofNat',Nat.mod_eq_of_lt (by omega)]
 congr 2
 omega
end
end Go.Proofs.Ytahllkifmmjbdaa
