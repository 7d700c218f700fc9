/- DERIVED: THE SHELF's CONTRACTS AT THIS DUMP,IN PLAIN WORDS (tools/lay-plain.mjs out of 'TryShelf.lean',which tools/lay-shelf.mjs wrote): THE SAME DECLARATIONS UNDER THE SAME NAMES: 'import','namespace','open','def','theorem' AND NOTHING ELSE: no command of the shelf's: FOR A HAND-IN. Each laying: the table of numbers ('.._ren') and one theorem,a field a fact of the dump's own or the kernel's comparison;each contract: ONE APPLICATION. Contracts: Has, Len, Depth, New. Contracts: right, slices.Equal at IDs. Contract: Add. Appends to rows of IDs, and rows made shorter. Contract: reach. Rows of IDs sorted by slices.SortFunc; the order of IDs. -/
import Derived.Shelf.SlGeneric
import Derived.Ground.SlsfProg
import Derived.Ground.SlgcProg
import Derived.Shelf.SlicesG.Cmp
import Derived.Shelf.SlSortCmp.NoneTotal
import Derived.Test.YtahllkifmmjbdaaProg
import Derived.Test.YtahllkifmmjbdaaDagQKp
import Derived.Test.YtahllkifmmjbdaaMapIKp
import Derived.Test.YtahllkifmmjbdaaIdRowKp
import Derived.Test.YtahllkifmmjbdaaRegMKp
import Derived.Deep.LoopGhost
set_option linter.unusedVariables false
set_option linter.unusedSimpArgs false
namespace Go.Proofs
open Go.Shelf
def Try.sortI_ren:Go.Shelf.Ren:=⟨fun | 6=>63 | 15=>76 | 14=>75 | 28=>90 | 29=>91 | 20=>82 | 21=>83 | 22=>84 | 23=>85 | 24=>86 | 25=>87 | 26=>88 | 27=>89 | 46=>94 | 47=>95 | 48=>96 | 49=>97 | 50=>98 | 57=>99 | n=>n,fun | 22=>40 | 24=>37 | 25=>80 | 3=>3 | 39=>75 | 0=>0 | 53=>55 | 55=>74 | 4=>4 | 46=>129 | 45=>128 | 50=>133 | 5=>5 | 9=>9 | 66=>139 | 70=>143 | 76=>145 | 77=>116 | n=>n,fun | n=>n⟩
theorem Try.sortI:Go.Proofs.SlLaysF0.n6 Try.prog Try.sortI_ren:={
 mixed:=by kernel_rfl
 f6:=⟨Try.f63.name,by decide,Try.func63.trans (congrArg some (by kernel_rfl))⟩
 f14:=⟨Try.f75.name,by decide,Try.func75.trans (congrArg some (by kernel_rfl))⟩
 f15:=Try.func76.trans (congrArg some (by kernel_rfl))
 f20:=⟨Try.f82.name,by decide,Try.func82.trans (congrArg some (by kernel_rfl))⟩
 f21:=⟨Try.f83.name,by decide,Try.func83.trans (congrArg some (by kernel_rfl))⟩
 f22:=⟨Try.f84.name,by decide,Try.func84.trans (congrArg some (by kernel_rfl))⟩
 f23:=⟨Try.f85.name,by decide,Try.func85.trans (congrArg some (by kernel_rfl))⟩
 f24:=⟨Try.f86.name,by decide,Try.func86.trans (congrArg some (by kernel_rfl))⟩
 f25:=⟨Try.f87.name,by decide,Try.func87.trans (congrArg some (by kernel_rfl))⟩
 f26:=⟨Try.f88.name,by decide,Try.func88.trans (congrArg some (by kernel_rfl))⟩
 f27:=⟨Try.f89.name,by decide,Try.func89.trans (congrArg some (by kernel_rfl))⟩
 f28:=Try.func90.trans (congrArg some (by kernel_rfl))
 f29:=Try.func91.trans (congrArg some (by kernel_rfl))
 f46:=⟨Try.f94.name,by decide,Try.func94.trans (congrArg some (by kernel_rfl))⟩
 f47:=Try.func95.trans (congrArg some (by kernel_rfl))
 f48:=Try.func96.trans (congrArg some (by kernel_rfl))
 f49:=⟨Try.f97.name,by decide,Try.func97.trans (congrArg some (by kernel_rfl))⟩
 f50:=⟨Try.f98.name,by decide,Try.func98.trans (congrArg some (by kernel_rfl))⟩
 f57:=⟨Try.f99.name,by decide,Try.func99.trans (congrArg some (by kernel_rfl))⟩
 t0:=Try.underlying0
 a0:=Try.isAgg0
 z0:=Try.sizeOf0
 v0:=Try.zeroValue0
 t3:=Try.underlying3
 a3:=Try.isAgg3
 z3:=Try.sizeOf3
 v3:=Try.zeroValue3
 t4:=Try.underlying4
 a4:=Try.isAgg4
 z4:=Try.sizeOf4
 v4:=Try.zeroValue4
 t5:=Try.underlying5
 a5:=Try.isAgg5
 z5:=Try.sizeOf5
 v5:=Try.zeroValue5
 t9:=Try.underlying9
 a9:=Try.isAgg9
 z9:=Try.sizeOf9
 v9:=Try.zeroValue9
 t22:=Try.underlying40
 a22:=Try.isAgg40
 z22:=Try.sizeOf40
 v22:=Try.zeroValue40
 t25:=Try.underlying80
 a25:=Try.isAgg80
 z25:=Try.sizeOf80
 v25:=Try.zeroValue80
 t39:=Try.underlying75
 a39:=Try.isAgg75
 z39:=Try.sizeOf75
 v39:=Try.zeroValue75
 t45:=Try.underlying128
 a45:=Try.isAgg128
 z45:=Try.sizeOf128
 v45:=Try.zeroValue128
 t46:=Try.underlying129
 a46:=Try.isAgg129
 z46:=Try.sizeOf129
 v46:=Try.zeroValue129
 t50:=Try.underlying133
 a50:=Try.isAgg133
 z50:=Try.sizeOf133
 v50:=Try.zeroValue133
 t53:=Try.underlying55
 a53:=Try.isAgg55
 z53:=Try.sizeOf55
 v53:=Try.zeroValue55
 t55:=Try.underlying74
 a55:=Try.isAgg74
 z55:=Try.sizeOf74
 v55:=Try.zeroValue74
 t66:=Try.underlying139
 a66:=Try.isAgg139
 z66:=Try.sizeOf139
 v66:=Try.zeroValue139
 t70:=Try.underlying143
 a70:=Try.isAgg143
 z70:=Try.sizeOf143
 v70:=Try.zeroValue143
 t76:=Try.underlying145
 a76:=Try.isAgg145
 z76:=Try.sizeOf145
 v76:=Try.zeroValue145
 t77:=Try.underlying116
 a77:=Try.isAgg116
 z77:=Try.sizeOf116
 v77:=Try.zeroValue116 }
end Go.Proofs
namespace Go.Proofs.Ytahllkifmmjbdaa
open Go.RowKit Go.Maps Go.Sort
section
variable {w w':World} {D A K:Nat} {kv:List (ID × Value)} {ks:List ID} {F:Nat → Prop} {G:Dg}
end
@[simp] theorem mk_map (t:TypeId) (w:World):(Instr.makeMap t none).run Try.prog w = .ok (.map (some w.heap.size)) (w.alloc (.map #[] 0)):=rfl
end Go.Proofs.Ytahllkifmmjbdaa
namespace Go.Proofs.Ytahllkifmmjbdaa
open Go.RowKit Go.Maps Go.Sort
end Go.Proofs.Ytahllkifmmjbdaa
namespace Go.Proofs.Ytahllkifmmjbdaa
open Go.RowKit Go.Maps Go.Sort
section
variable {w w':World} {D A K:Nat} {kv:List (ID × Value)} {ks:List ID} {F:Nat → Prop} {G:Dg}
end
end Go.Proofs.Ytahllkifmmjbdaa
namespace Go.Proofs.Ytahllkifmmjbdaa
open Go.RowKit
theorem own_idc {w:World} {base:Nat} {n:Nat} {v:Value} {l:List ID} (h:w.ownsRow base 37 32 v n (idc l)):w.ownsRow base 37 32 v l.length (idc l):=by
 have hn:n = l.length:=by have:=h.1;rw [idc_length] at this;omega
 subst hn;exact h
theorem ownBlock_sl (A:Option Addr) (n c:Nat):(Value.slice A n c).ownBlock = A.map (·.block):=by cases A <;> rfl
section
variable (w0 w:World)
end
end Go.Proofs.Ytahllkifmmjbdaa
namespace Go.Proofs.Ytahllkifmmjbdaa
open Go.RowKit Go.Maps Go.Sort
end Go.Proofs.Ytahllkifmmjbdaa
namespace Go.Proofs.Ytahllkifmmjbdaa
open Go.RowKit Go.Maps Go.Sort Go.Shelf
theorem cbD_anti (a b:List UInt8):Lib.compareBytes a b = - Lib.compareBytes b a:=by
 induction a generalizing b with
 | nil=>cases b <;> simp [Lib.compareBytes]
 | cons x a ih=>cases b with
  | nil=>simp [Lib.compareBytes]
  | cons y b =>
   simp only [Lib.compareBytes]
   rcases Nat.lt_trichotomy x.toNat y.toNat with h | h | h
   ·have h1:x < y:=UInt8.lt_iff_toNat_lt.2 h
    have h2:¬ y < x:=fun h'=>by have:=UInt8.lt_iff_toNat_lt.1 h';omega
    simp [h1,h2]
   ·have h1:¬ x < y:=fun h'=>by have:=UInt8.lt_iff_toNat_lt.1 h';omega
    have h2:¬ y < x:=fun h'=>by have:=UInt8.lt_iff_toNat_lt.1 h';omega
    simp [h1,h2,ih b]
   ·have h1:¬ x < y:=fun h'=>by have:=UInt8.lt_iff_toNat_lt.1 h';omega
    have h2:y < x:=UInt8.lt_iff_toNat_lt.2 h
    simp [h1,h2]
theorem cbD_eq (a b:List UInt8):Lib.compareBytes a b = 0 ↔ a = b:=by
 induction a generalizing b with
 | nil=>cases b <;> simp [Lib.compareBytes]
 | cons x a ih=>cases b with
  | nil=>simp [Lib.compareBytes]
  | cons y b =>
   simp only [Lib.compareBytes]
   rcases Nat.lt_trichotomy x.toNat y.toNat with h | h | h
   ·have h1:x < y:=UInt8.lt_iff_toNat_lt.2 h
    have h2:x ≠ y:=by rintro rfl;omega
    simp [h1,h2]
   ·have h1:¬ x < y:=fun h'=>by have:=UInt8.lt_iff_toNat_lt.1 h';omega
    have h2:¬ y < x:=fun h'=>by have:=UInt8.lt_iff_toNat_lt.1 h';omega
    have h3:x = y:=UInt8.toNat_inj.1 h
    simp [h1,h2,h3,ih b]
   ·have h1:¬ x < y:=fun h'=>by have:=UInt8.lt_iff_toNat_lt.1 h';omega
    have h2:y < x:=UInt8.lt_iff_toNat_lt.2 h
    have h3:x ≠ y:=by rintro rfl;omega
    simp [h1,h2,h3]
theorem cbD_trans (a b c:List UInt8) (h:Lib.compareBytes a b < 0) (h':Lib.compareBytes b c < 0):Lib.compareBytes a c < 0:=by
 induction a generalizing b c with
 | nil=>cases c with
  | nil=>cases b <;> simp [Lib.compareBytes] at h'
  | cons z c=>simp [Lib.compareBytes]
 | cons x a ih=>cases b with
  | nil=>simp [Lib.compareBytes] at h
  | cons y b=>cases c with
   | nil=>simp [Lib.compareBytes] at h'
   | cons z c =>
    simp only [Lib.compareBytes] at h h' ⊢
    have lt_n:∀ u v:UInt8,u < v ↔ u.toNat < v.toNat:=fun u v=>UInt8.lt_iff_toNat_lt
    simp only [lt_n] at h h' ⊢
    by_cases h1:x.toNat < y.toNat
    ·by_cases h2:y.toNat < z.toNat
     ·rw [if_pos (by omega)];decide
     ·rw [if_neg h2] at h'
      by_cases h3:z.toNat < y.toNat
      ·rw [if_pos h3] at h';exact absurd h' (by decide)
      ·rw [if_pos (by omega)];decide
    ·rw [if_neg h1] at h
     by_cases h2:y.toNat < x.toNat
     ·rw [if_pos h2] at h;exact absurd h (by decide)
     ·rw [if_neg h2] at h
      by_cases h3:y.toNat < z.toNat
      ·rw [if_pos (by omega)];decide
      ·rw [if_neg h3] at h'
       by_cases h4:z.toNat < y.toNat
       ·rw [if_pos h4] at h';exact absurd h' (by decide)
       ·rw [if_neg h4] at h'
        rw [if_neg (by omega),if_neg (by omega)]
        exact ih b c h h'
theorem cmpD_eq (x y:ID):cmpI x y = 0 ↔ x = y:=by
 unfold cmpI
 rw [cbD_eq]
 exact ⟨fun h=>Subtype.ext h,fun h=>congrArg Subtype.val h⟩
theorem cmpD_anti (x y:ID):cmpI x y = - cmpI y x:=cbD_anti _ _
theorem cmpD_trans {x y z:ID} (h:cmpI x y < 0) (h':cmpI y z < 0):cmpI x z < 0:=cbD_trans _ _ _ h h'
theorem cmpD_self (x:ID):cmpI x x = 0:=(cmpD_eq x x).2 rfl
theorem lt_cmpI (x y:ID):ltOf cmpI x y = decide (cmpI x y < 0):=rfl
theorem swoI:SWO (ltOf cmpI) where
 irrefl x:=by simp [lt_cmpI,cmpD_self]
 trans x y z h1 h2:=by
  simp only [lt_cmpI,decide_eq_true_eq] at *
  exact cmpD_trans h1 h2
 ntrans x y z h1 h2:=by
  simp only [lt_cmpI,decide_eq_false_iff_not] at *
  intro h
  have e1:=cmpD_anti x y
  have e2:=cmpD_anti y z
  rcases Int.lt_trichotomy (cmpI y x) 0 with h3 | h3 | h3
  ·exact h2 (cmpD_trans h3 h)
  ·have:=(cmpD_eq y x).1 h3;subst this;exact h2 h
  ·omega
theorem totI:∀ x y,(ltOf cmpI) x y = false → (ltOf cmpI) y x = false → x = y:=by
 intro x y h1 h2
 simp only [lt_cmpI,decide_eq_false_iff_not] at *
 have:=cmpD_anti x y
 exact (cmpD_eq x y).1 (by omega)
def encSI (x:ID):List Value:=bv x.1
theorem flat_idc (l:List ID):flatK encSI 32 l.toArray = (idc l).toArray:=by
 apply Array.ext_getElem?
 intro t
 by_cases ht:t < l.length * 32
 ·have hi:t / 32 < l.length:=by omega
  have hj:t % 32 < 32:=Nat.mod_lt _ (by decide)
  have e1:(bv (l[t / 32]).1)[t % 32]? = some ((bv (l[t / 32]).1)[t % 32]'(by simp [(l[t / 32]).2];exact hj)):=List.getElem?_eq_getElem _
  have e2:=idc_get l (t / 32) (t % 32) hi _ e1
  rw [show t / 32 * 32 + t % 32 = t by omega] at e2
  have e3:(idc l).toArray[t]? = _:=(List.getElem?_toArray ..).trans e2
  rw [e3]
  have h3:t < (flatK encSI 32 l.toArray).size:=by simpa using ht
  rw [Array.getElem?_eq_getElem h3]
  congr 1
  have:=get_flatK encSI 32 l.toArray t (by simpa using ht)
  rw [getElem!_pos _ t h3] at this
  rw [this]
  simp [encSI,hi,(l[t / 32]).2,hj]
 ·rw [Array.getElem?_eq_none (by simpa using ht),Array.getElem?_eq_none (by simp [idc_length];omega)]
def sortBy (cf:ID → ID → Int) (l:List ID):List ID:=l.mergeSort fun x y=>!(ltOf cf) y x
theorem sortBy_length (cf:ID → ID → Int) (l:List ID):(sortBy cf l).length = l.length:=List.length_mergeSort l
theorem putCells_idc (cur:Array Value) (l:List ID) (n:Nat) (hn:n = l.length * 32) (h:l.length * 32 ≤ cur.size):(putCells id 0 (idc l).toArray cur).toList.take n = idc l:=by
 subst hn
 have hl:=idc_length l
 apply List.ext_getElem?
 intro j
 by_cases hj:j < l.length * 32
 ·rw [List.getElem?_take_of_lt hj,Array.getElem?_toList]
  simp [putCells,hl,hj,show j < cur.size by omega]
 ·rw [List.getElem?_take_eq_none (by omega),List.getElem?_eq_none (by omega)]
theorem sort_any (w0 w:World) (A:Option Addr) (c n:Nat) (l:List ID) (hn:l.length = n) (ho:OwnD w0 w A c l) (hl:l.length ≤ 1000000000000) (g:Nat) (cb:Array Value) (cf:ID → ID → Int) (hO:SWO (ltOf cf)) (hT:∀ x y,(ltOf cf) x y = false → (ltOf cf) y x = false → x = y)
  (eg:∀ args w,(callFunc g args).run Try.prog w = .ok (.enter g args) w) (hcmp:∀ blk,A = some ⟨blk,0,none⟩ → blk < w.heap.size → CmpLays Try.prog g cb encSI 32 cf blk 0 l.length w) :
  Calls Try.prog 63 #[.slice A n c,.func (.func g) #[] cb] w fun e w'=>e = .returned (.tuple #[]) ∧ OwnD w0 w' A c (sortBy cf l) ∧ Fr (fun b=>A.map (·.block) = some b) w w':=by
 subst hn
 by_cases h0:l = []
 ·subst h0
  refine (AnyF.slices_SortFunc_none Try.sortI A c _ w).mono ?_
  rintro e w' ⟨rfl,rfl⟩
  exact ⟨rfl,by simpa [sortBy] using ho,Fr.refl _ _⟩
 ·have hlen:0 < l.length:=List.length_pos_iff.2 h0
  have ho':=ho
  rcases ho'.2 with ⟨hv,h00⟩ | ⟨blk,cap,cur,hv,hb,hg,hnc,hm,hs,ht⟩
  ·omega
  ·injection hv with h1 _ h3
   subst h1;subst h3
   have hblk:blk < w.heap.size:=(Array.getElem?_eq_some_iff.1 hg).1
   have hH:HoldsK encSI 32 w blk 0 l.toArray:=by
    unfold HoldsK
    rw [flat_idc]
    intro j hj
    have hj':j < (idc l).length:=by simpa using hj
    refine ⟨?_,by simp [World.frozen?,hg]⟩
    have:=(Sl.own ho) (by intro h;rw [h] at hj';simp at hj')
    obtain ⟨g',off',e,_,hc⟩:=this
    injection e with e
    injection e with e1 e2
    subst e1;subst e2
    rw [hc j _ (List.getElem?_eq_getElem hj')]
    simp [hj']
   have hS:=AnyQ.slices_SortFunc_total Try.sortI 32 Try.isAgg37 sizeID encSI (fun x=>by simp [encSI,x.2]) (fun x v hv=>bv_one _ v hv) cf hO g cb blk 0 c l.toArray w eg (by simpa using hcmp blk rfl hblk) hH hblk (by simp;omega) hT
   change Calls Try.prog 63 _ _ _ at hS
   rw [List.size_toArray] at hS
   refine hS.mono ?_
   rintro e w' ⟨rfl,n,os,rfl⟩
   have hsl:(l.mergeSort fun x y=>!(ltOf cf) y x) = sortBy cf l:=rfl
   simp only [List.toList_toArray] at *
   rw [hsl]
   have hlen2:=sortBy_length cf l
   refine ⟨trivial,⟨idc_length _,.inr ⟨blk,c,putCells id 0 (idc (sortBy cf l)).toArray cur,rfl,hb,?_,by rw [hlen2];exact hnc,hm,by simp [putCells,hs],putCells_idc _ _ _ rfl (by rw [hlen2,hs];exact Nat.mul_le_mul_right 32 hnc)⟩⟩,?_⟩
   ·unfold sortWorldK putRowK
    rw [heap_grow_old _ _ (by simpa using hblk),flat_idc]
    simp [putRow,mapBlock,Sort.ahead,Array.getElem?_modify,hg,onCells]
   ·refine ⟨rfl,rfl,rfl,by simp [sortWorldK,putRowK,Sort.ahead],fun k hk hne=>?_⟩
    unfold sortWorldK putRowK
    rw [heap_grow_old _ _ (by simpa using hk)]
    have:blk ≠ k:=fun e=>hne (by simp [e])
    simp [putRow,mapBlock,Sort.ahead,Array.getElem?_modify,this]
theorem sortC_any (w0 w:World) (A:Option Addr) (c n:Nat) (l:List ID) (hn:l.length = n) (ho:OwnD w0 w A c l) (hl:l.length ≤ 1000000000000) :
  Calls Try.prog 63 #[.slice A n c,.func (.func 41) #[] #[]] w fun e w'=>e = .returned (.tuple #[]) ∧ OwnD w0 w' A c (sortBy cmpI l) ∧ Fr (fun b=>A.map (·.block) = some b) w w':=by
 refine sort_any w0 w A c n l hn ho hl 41 #[] cmpI swoI totI (enters_of Try.func41 (by kernel_rfl) rfl) (fun blk _ _ m os dk hdk x y=>?_)
 have:=cmp_any (sortWorldK encSI 32 w blk 0 m dk os) x y
 simp only [encI,idA_eq] at this
 exact this.mono (fun e w' h=>h)
end Go.Proofs.Ytahllkifmmjbdaa
