/- DERIVED: THE SHELF's CONTRACTS AT THIS DUMP,IN PLAIN WORDS (tools/lay-plain.mjs out of 'TryzShelf.lean',which tools/lay-shelf.mjs wrote): THE SAME DECLARATIONS UNDER THE SAME NAMES: 'import','namespace','open','def','theorem' AND NOTHING ELSE: no command of the shelf's: FOR A HAND-IN. Each laying: the table of numbers ('.._ren') and one theorem,a field a fact of the dump's own or the kernel's comparison;each contract: ONE APPLICATION. Rows of IDs sorted by slices.SortFunc; the order of IDs. -/
import Derived.Shelf.SlGeneric
import Derived.Ground.SlsfProg
import Derived.Ground.SlgcProg
import Derived.Shelf.SlicesG.Cmp
import Derived.Shelf.SlSortCmp.NoneTotal
import Derived.Test.YtnkdnbjmhoegkaaGreatProg
import Derived.Test.YtnkdnbjmhoegkaaGreatCptKq
set_option linter.unusedVariables false
set_option linter.unusedSimpArgs false
namespace Go.Proofs
open Go.Shelf
def Tryz.sortR_ren:Go.Shelf.Ren:=⟨fun | 6=>25 | 15=>42 | 14=>41 | 28=>69 | 29=>70 | 20=>61 | 21=>62 | 22=>63 | 23=>64 | 24=>65 | 25=>66 | 26=>67 | 27=>68 | 46=>94 | 47=>95 | 48=>96 | 49=>97 | 50=>98 | 57=>107 | n=>n,fun | 22=>25 | 24=>28 | 25=>76 | 3=>3 | 39=>100 | 0=>0 | 53=>113 | 55=>129 | 4=>4 | 46=>121 | 45=>120 | 50=>125 | 5=>5 | 9=>9 | 66=>149 | 70=>153 | 76=>161 | 77=>162 | n=>n,fun | n=>n⟩
theorem Tryz.sortR:Go.Proofs.SlLaysF0.n6 Tryz.prog Tryz.sortR_ren:={
 mixed:=by kernel_rfl
 f6:=⟨Tryz.f25.name,by decide,Tryz.func25.trans (congrArg some (by kernel_rfl))⟩
 f14:=⟨Tryz.f41.name,by decide,Tryz.func41.trans (congrArg some (by kernel_rfl))⟩
 f15:=Tryz.func42.trans (congrArg some (by kernel_rfl))
 f20:=⟨Tryz.f61.name,by decide,Tryz.func61.trans (congrArg some (by kernel_rfl))⟩
 f21:=⟨Tryz.f62.name,by decide,Tryz.func62.trans (congrArg some (by kernel_rfl))⟩
 f22:=⟨Tryz.f63.name,by decide,Tryz.func63.trans (congrArg some (by kernel_rfl))⟩
 f23:=⟨Tryz.f64.name,by decide,Tryz.func64.trans (congrArg some (by kernel_rfl))⟩
 f24:=⟨Tryz.f65.name,by decide,Tryz.func65.trans (congrArg some (by kernel_rfl))⟩
 f25:=⟨Tryz.f66.name,by decide,Tryz.func66.trans (congrArg some (by kernel_rfl))⟩
 f26:=⟨Tryz.f67.name,by decide,Tryz.func67.trans (congrArg some (by kernel_rfl))⟩
 f27:=⟨Tryz.f68.name,by decide,Tryz.func68.trans (congrArg some (by kernel_rfl))⟩
 f28:=Tryz.func69.trans (congrArg some (by kernel_rfl))
 f29:=Tryz.func70.trans (congrArg some (by kernel_rfl))
 f46:=⟨Tryz.f94.name,by decide,Tryz.func94.trans (congrArg some (by kernel_rfl))⟩
 f47:=Tryz.func95.trans (congrArg some (by kernel_rfl))
 f48:=Tryz.func96.trans (congrArg some (by kernel_rfl))
 f49:=⟨Tryz.f97.name,by decide,Tryz.func97.trans (congrArg some (by kernel_rfl))⟩
 f50:=⟨Tryz.f98.name,by decide,Tryz.func98.trans (congrArg some (by kernel_rfl))⟩
 f57:=⟨Tryz.f107.name,by decide,Tryz.func107.trans (congrArg some (by kernel_rfl))⟩
 t0:=Tryz.underlying0
 a0:=Tryz.isAgg0
 z0:=Tryz.sizeOf0
 v0:=Tryz.zeroValue0
 t3:=Tryz.underlying3
 a3:=Tryz.isAgg3
 z3:=Tryz.sizeOf3
 v3:=Tryz.zeroValue3
 t4:=Tryz.underlying4
 a4:=Tryz.isAgg4
 z4:=Tryz.sizeOf4
 v4:=Tryz.zeroValue4
 t5:=Tryz.underlying5
 a5:=Tryz.isAgg5
 z5:=Tryz.sizeOf5
 v5:=Tryz.zeroValue5
 t9:=Tryz.underlying9
 a9:=Tryz.isAgg9
 z9:=Tryz.sizeOf9
 v9:=Tryz.zeroValue9
 t22:=Tryz.underlying25
 a22:=Tryz.isAgg25
 z22:=Tryz.sizeOf25
 v22:=Tryz.zeroValue25
 t25:=Tryz.underlying76
 a25:=Tryz.isAgg76
 z25:=Tryz.sizeOf76
 v25:=Tryz.zeroValue76
 t39:=Tryz.underlying100
 a39:=Tryz.isAgg100
 z39:=Tryz.sizeOf100
 v39:=Tryz.zeroValue100
 t45:=Tryz.underlying120
 a45:=Tryz.isAgg120
 z45:=Tryz.sizeOf120
 v45:=Tryz.zeroValue120
 t46:=Tryz.underlying121
 a46:=Tryz.isAgg121
 z46:=Tryz.sizeOf121
 v46:=Tryz.zeroValue121
 t50:=Tryz.underlying125
 a50:=Tryz.isAgg125
 z50:=Tryz.sizeOf125
 v50:=Tryz.zeroValue125
 t53:=Tryz.underlying113
 a53:=Tryz.isAgg113
 z53:=Tryz.sizeOf113
 v53:=Tryz.zeroValue113
 t55:=Tryz.underlying129
 a55:=Tryz.isAgg129
 z55:=Tryz.sizeOf129
 v55:=Tryz.zeroValue129
 t66:=Tryz.underlying149
 a66:=Tryz.isAgg149
 z66:=Tryz.sizeOf149
 v66:=Tryz.zeroValue149
 t70:=Tryz.underlying153
 a70:=Tryz.isAgg153
 z70:=Tryz.sizeOf153
 v70:=Tryz.zeroValue153
 t76:=Tryz.underlying161
 a76:=Tryz.isAgg161
 z76:=Tryz.sizeOf161
 v76:=Tryz.zeroValue161
 t77:=Tryz.underlying162
 a77:=Tryz.isAgg162
 z77:=Tryz.sizeOf162
 v77:=Tryz.zeroValue162 }
def Tryz.sortI_ren:Go.Shelf.Ren:=⟨fun | 6=>33 | 15=>42 | 14=>46 | 28=>69 | 29=>70 | 20=>73 | 21=>74 | 22=>75 | 23=>76 | 24=>77 | 25=>78 | 26=>79 | 27=>80 | 46=>99 | 47=>95 | 48=>96 | 49=>100 | 50=>101 | 57=>108 | n=>n,fun | 22=>50 | 24=>34 | 25=>87 | 3=>3 | 39=>100 | 0=>0 | 53=>113 | 55=>129 | 4=>4 | 46=>121 | 45=>120 | 50=>125 | 5=>5 | 9=>9 | 66=>149 | 70=>153 | 76=>161 | 77=>162 | n=>n,fun | n=>n⟩
theorem Tryz.sortI:Go.Proofs.SlLaysF0.n6 Tryz.prog Tryz.sortI_ren:={
 mixed:=by kernel_rfl
 f6:=⟨Tryz.f33.name,by decide,Tryz.func33.trans (congrArg some (by kernel_rfl))⟩
 f14:=⟨Tryz.f46.name,by decide,Tryz.func46.trans (congrArg some (by kernel_rfl))⟩
 f15:=Tryz.func42.trans (congrArg some (by kernel_rfl))
 f20:=⟨Tryz.f73.name,by decide,Tryz.func73.trans (congrArg some (by kernel_rfl))⟩
 f21:=⟨Tryz.f74.name,by decide,Tryz.func74.trans (congrArg some (by kernel_rfl))⟩
 f22:=⟨Tryz.f75.name,by decide,Tryz.func75.trans (congrArg some (by kernel_rfl))⟩
 f23:=⟨Tryz.f76.name,by decide,Tryz.func76.trans (congrArg some (by kernel_rfl))⟩
 f24:=⟨Tryz.f77.name,by decide,Tryz.func77.trans (congrArg some (by kernel_rfl))⟩
 f25:=⟨Tryz.f78.name,by decide,Tryz.func78.trans (congrArg some (by kernel_rfl))⟩
 f26:=⟨Tryz.f79.name,by decide,Tryz.func79.trans (congrArg some (by kernel_rfl))⟩
 f27:=⟨Tryz.f80.name,by decide,Tryz.func80.trans (congrArg some (by kernel_rfl))⟩
 f28:=Tryz.func69.trans (congrArg some (by kernel_rfl))
 f29:=Tryz.func70.trans (congrArg some (by kernel_rfl))
 f46:=⟨Tryz.f99.name,by decide,Tryz.func99.trans (congrArg some (by kernel_rfl))⟩
 f47:=Tryz.func95.trans (congrArg some (by kernel_rfl))
 f48:=Tryz.func96.trans (congrArg some (by kernel_rfl))
 f49:=⟨Tryz.f100.name,by decide,Tryz.func100.trans (congrArg some (by kernel_rfl))⟩
 f50:=⟨Tryz.f101.name,by decide,Tryz.func101.trans (congrArg some (by kernel_rfl))⟩
 f57:=⟨Tryz.f108.name,by decide,Tryz.func108.trans (congrArg some (by kernel_rfl))⟩
 t0:=Tryz.underlying0
 a0:=Tryz.isAgg0
 z0:=Tryz.sizeOf0
 v0:=Tryz.zeroValue0
 t3:=Tryz.underlying3
 a3:=Tryz.isAgg3
 z3:=Tryz.sizeOf3
 v3:=Tryz.zeroValue3
 t4:=Tryz.underlying4
 a4:=Tryz.isAgg4
 z4:=Tryz.sizeOf4
 v4:=Tryz.zeroValue4
 t5:=Tryz.underlying5
 a5:=Tryz.isAgg5
 z5:=Tryz.sizeOf5
 v5:=Tryz.zeroValue5
 t9:=Tryz.underlying9
 a9:=Tryz.isAgg9
 z9:=Tryz.sizeOf9
 v9:=Tryz.zeroValue9
 t22:=Tryz.underlying50
 a22:=Tryz.isAgg50
 z22:=Tryz.sizeOf50
 v22:=Tryz.zeroValue50
 t25:=Tryz.underlying87
 a25:=Tryz.isAgg87
 z25:=Tryz.sizeOf87
 v25:=Tryz.zeroValue87
 t39:=Tryz.underlying100
 a39:=Tryz.isAgg100
 z39:=Tryz.sizeOf100
 v39:=Tryz.zeroValue100
 t45:=Tryz.underlying120
 a45:=Tryz.isAgg120
 z45:=Tryz.sizeOf120
 v45:=Tryz.zeroValue120
 t46:=Tryz.underlying121
 a46:=Tryz.isAgg121
 z46:=Tryz.sizeOf121
 v46:=Tryz.zeroValue121
 t50:=Tryz.underlying125
 a50:=Tryz.isAgg125
 z50:=Tryz.sizeOf125
 v50:=Tryz.zeroValue125
 t53:=Tryz.underlying113
 a53:=Tryz.isAgg113
 z53:=Tryz.sizeOf113
 v53:=Tryz.zeroValue113
 t55:=Tryz.underlying129
 a55:=Tryz.isAgg129
 z55:=Tryz.sizeOf129
 v55:=Tryz.zeroValue129
 t66:=Tryz.underlying149
 a66:=Tryz.isAgg149
 z66:=Tryz.sizeOf149
 v66:=Tryz.zeroValue149
 t70:=Tryz.underlying153
 a70:=Tryz.isAgg153
 z70:=Tryz.sizeOf153
 v70:=Tryz.zeroValue153
 t76:=Tryz.underlying161
 a76:=Tryz.isAgg161
 z76:=Tryz.sizeOf161
 v76:=Tryz.zeroValue161
 t77:=Tryz.underlying162
 a77:=Tryz.isAgg162
 z77:=Tryz.sizeOf162
 v77:=Tryz.zeroValue162 }
def Tryz.cmpInt_ren:Go.Shelf.Ren:=⟨fun | 5=>45 | 7=>72 | n=>n,fun | 22=>3 | 3=>3 | 4=>4 | n=>n,fun | n=>n⟩
theorem Tryz.cmpInt:Go.Proofs.SlLaysC2.n5 Tryz.prog Tryz.cmpInt_ren:={
 mixed:=by kernel_rfl
 f5:=⟨Tryz.f45.name,by decide,Tryz.func45.trans (congrArg some (by kernel_rfl))⟩
 f7:=⟨Tryz.f72.name,by decide,Tryz.func72.trans (congrArg some (by kernel_rfl))⟩
 t3:=Tryz.underlying3
 a3:=Tryz.isAgg3
 z3:=Tryz.sizeOf3
 v3:=Tryz.zeroValue3
 t4:=Tryz.underlying4
 a4:=Tryz.isAgg4
 z4:=Tryz.sizeOf4
 v4:=Tryz.zeroValue4
 t22:=Tryz.underlying3
 a22:=Tryz.isAgg3
 z22:=Tryz.sizeOf3
 v22:=Tryz.zeroValue3 }
end Go.Proofs
namespace Go.Proofs.YtnkdnbjmhoegkaaGreat
open Go.RowKit Go.Maps Go.Sort Go.Shelf
theorem lt_cmpI (x y:ID):ltOf cmpI x y = decide (cmpI x y < 0):=rfl
theorem swoI:SWO (ltOf cmpI) where
 irrefl x:=by simp [lt_cmpI,cmpI_self]
 trans x y z h1 h2:=by
  simp only [lt_cmpI,decide_eq_true_eq] at *
  exact cmpI_trans h1 h2
 ntrans x y z h1 h2:=by
  simp only [lt_cmpI,decide_eq_false_iff_not] at *
  intro h
  have e1:=cmpI_anti x y
  have e2:=cmpI_anti y z
  rcases Int.lt_trichotomy (cmpI y x) 0 with h3 | h3 | h3
  ·exact h2 (cmpI_trans h3 h)
  ·have:=(cmpI_eq y x).1 h3;subst this;exact h2 h
  ·omega
theorem totI:∀ x y,(ltOf cmpI) x y = false → (ltOf cmpI) y x = false → x = y:=by
 intro x y h1 h2
 simp only [lt_cmpI,decide_eq_false_iff_not] at *
 have:=cmpI_anti x y
 exact (cmpI_eq x y).1 (by omega)
def encJ (x:ID):List Value:=bv x.1
theorem flat_idc (l:List ID):flatK encJ 32 l.toArray = (idc l).toArray:=by
 apply Array.ext_getElem?
 intro t
 by_cases ht:t < l.length * 32
 ·have hi:t / 32 < l.length:=by omega
  have hj:t % 32 < 32:=Nat.mod_lt _ (by decide)
  have e1:(bv (l[t / 32]).1)[t % 32]? = some ((bv (l[t / 32]).1)[t % 32]'(by simp [(l[t / 32]).2];exact hj)):=List.getElem?_eq_getElem _
  have e2:=idc_get l (t / 32) (t % 32) hi _ e1
  rw [show t / 32 * 32 + t % 32 = t by omega] at e2
  have e3:(idc l).toArray[t]? = _:=(List.getElem?_toArray ..).trans e2
  rw [e3]
  have h3:t < (flatK encJ 32 l.toArray).size:=by simpa using ht
  rw [Array.getElem?_eq_getElem h3]
  congr 1
  have:=get_flatK encJ 32 l.toArray t (by simpa using ht)
  rw [getElem!_pos _ t h3] at this
  rw [this]
  simp [encJ,hi,(l[t / 32]).2,hj]
 ·rw [Array.getElem?_eq_none (by simpa using ht),Array.getElem?_eq_none (by simp [idc_length];omega)]
def sortBy (cf:ID → ID → Int) (l:List ID):List ID:=l.mergeSort fun x y=>!(ltOf cf) y x
theorem sortBy_length (cf:ID → ID → Int) (l:List ID):(sortBy cf l).length = l.length:=List.length_mergeSort l
theorem putCells_idc (cur:Array Value) (l:List ID) (n:Nat) (hn:n = l.length * 32) (h:l.length * 32 ≤ cur.size):(putCells id 0 (idc l).toArray cur).toList.take n = idc l:=by
 subst hn
 have hl:=idc_length l
 apply List.ext_getElem?
 intro j
 by_cases hj:j < l.length * 32
 ·rw [List.getElem?_take_of_lt hj,Array.getElem?_toList]
  simp [putCells,hl,hj,show j < cur.size by omega]
 ·rw [List.getElem?_take_eq_none (by omega),List.getElem?_eq_none (by omega)]
theorem sort_any (w0 w:World) (A:Option Addr) (c n:Nat) (l:List ID) (hn:l.length = n) (ho:OwnD w0 w A c l) (hl:l.length ≤ 1000000000000) (g:Nat) (cb:Array Value) (cf:ID → ID → Int) (hO:SWO (ltOf cf)) (hT:∀ x y,(ltOf cf) x y = false → (ltOf cf) y x = false → x = y)
  (eg:∀ args w,(callFunc g args).run Tryz.prog w = .ok (.enter g args) w) (hcmp:∀ blk,A = some ⟨blk,0,none⟩ → blk < w.heap.size → CmpLays Tryz.prog g cb encJ 32 cf blk 0 l.length w) :
  Calls Tryz.prog 33 #[.slice A n c,.func (.func g) #[] cb] w fun e w'=>e = .returned (.tuple #[]) ∧ OwnD w0 w' A c (sortBy cf l) ∧ Fr (fun b=>A.map (·.block) = some b) w w':=by
 subst hn
 by_cases h0:l = []
 ·subst h0
  refine (AnyF.slices_SortFunc_none Tryz.sortI A c _ w).mono ?_
  rintro e w' ⟨rfl,rfl⟩
  exact ⟨rfl,by simpa [sortBy] using ho,Fr.refl _ _⟩
 ·have hlen:0 < l.length:=List.length_pos_iff.2 h0
  have ho':=ho
  rcases ho'.2 with ⟨hv,h00⟩ | ⟨blk,cap,cur,hv,hb,hg,hnc,hm,hs,ht⟩
  ·omega
  ·injection hv with h1 _ h3
   subst h1;subst h3
   have hblk:blk < w.heap.size:=(Array.getElem?_eq_some_iff.1 hg).1
   have hH:HoldsK encJ 32 w blk 0 l.toArray:=by
    unfold HoldsK
    rw [flat_idc]
    intro j hj
    have hj':j < (idc l).length:=by simpa using hj
    refine ⟨?_,by simp [World.frozen?,hg]⟩
    have:=(Sl.own ho) (by intro h;rw [h] at hj';simp at hj')
    obtain ⟨g',off',e,_,hc⟩:=this
    injection e with e
    injection e with e1 e2
    subst e1;subst e2
    rw [hc j _ (List.getElem?_eq_getElem hj')]
    simp [hj']
   have hS:=AnyQ.slices_SortFunc_total Tryz.sortI 32 Tryz.isAgg34 sizeID encJ (fun x=>by simp [encJ,x.2]) (fun x v hv=>bv_one _ v hv) cf hO g cb blk 0 c l.toArray w eg (by simpa using hcmp blk rfl hblk) hH hblk (by simp;omega) hT
   change Calls Tryz.prog 33 _ _ _ at hS
   rw [List.size_toArray] at hS
   refine hS.mono ?_
   rintro e w' ⟨rfl,n,os,rfl⟩
   have hsl:(l.mergeSort fun x y=>!(ltOf cf) y x) = sortBy cf l:=rfl
   simp only [List.toList_toArray] at *
   rw [hsl]
   have hlen2:=sortBy_length cf l
   refine ⟨trivial,⟨idc_length _,.inr ⟨blk,c,putCells id 0 (idc (sortBy cf l)).toArray cur,rfl,hb,?_,by rw [hlen2];exact hnc,hm,by simp [putCells,hs],putCells_idc _ _ _ rfl (by rw [hlen2,hs];exact Nat.mul_le_mul_right 32 hnc)⟩⟩,?_⟩
   ·unfold sortWorldK putRowK
    rw [heap_grow_old _ _ (by simpa using hblk),flat_idc]
    simp [putRow,mapBlock,Sort.ahead,Array.getElem?_modify,hg,onCells]
   ·refine ⟨rfl,rfl,rfl,by simp [sortWorldK,putRowK,Sort.ahead],fun k hk hne=>?_⟩
    unfold sortWorldK putRowK
    rw [heap_grow_old _ _ (by simpa using hk)]
    have:blk ≠ k:=fun e=>hne (by simp [e])
    simp [putRow,mapBlock,Sort.ahead,Array.getElem?_modify,this]
theorem sortC_any (w0 w:World) (A:Option Addr) (c n:Nat) (l:List ID) (hn:l.length = n) (ho:OwnD w0 w A c l) (hl:l.length ≤ 1000000000000) :
  Calls Tryz.prog 33 #[.slice A n c,.func (.func 34) #[] #[]] w fun e w'=>e = .returned (.tuple #[]) ∧ OwnD w0 w' A c (sortBy cmpI l) ∧ Fr (fun b=>A.map (·.block) = some b) w w':=by
 refine sort_any w0 w A c n l hn ho hl 34 #[] cmpI swoI totI (enters_of Tryz.func34 (by kernel_rfl) rfl) (fun blk _ _ m os dk hdk x y=>?_)
 have:=cmp_any (sortWorldK encJ 32 w blk 0 m dk os) x y
 simp only [encI,idA_eq] at this
 exact this.mono (fun e w' h=>h)
end Go.Proofs.YtnkdnbjmhoegkaaGreat
