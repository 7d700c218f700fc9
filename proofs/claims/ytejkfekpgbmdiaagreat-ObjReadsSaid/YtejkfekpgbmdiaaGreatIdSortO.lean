/- Rows of IDs sorted by slices.SortFunc; the order of IDs. -/
import Derived.Test.YtejkfekpgbmdiaaGreatSortL
import Derived.Test.YtejkfekpgbmdiaaGreatCpt
namespace Go.Proofs.YtejkfekpgbmdiaaGreat
open Go.RowKit Go.Maps Go.Sort Go.Shelf
set_option linter.unusedVariables false
set_option linter.unusedSimpArgs false

theorem lt_cmpI (x y : ID) : ltOf cmpI x y = decide (cmpI x y < 0) := rfl
theorem swoI : SWO (ltOf cmpI) where
  irrefl x := by simp [lt_cmpI, cmpI_self]
  trans x y z h1 h2 := by
    simp only [lt_cmpI, decide_eq_true_eq] at *
    exact cmpI_trans h1 h2
  ntrans x y z h1 h2 := by
    simp only [lt_cmpI, decide_eq_false_iff_not] at *
    intro h
    have e1 := cmpI_anti x y
    have e2 := cmpI_anti y z
    rcases Int.lt_trichotomy (cmpI y x) 0 with h3 | h3 | h3
    · exact h2 (cmpI_trans h3 h)
    · have := (cmpI_eq y x).1 h3; subst this; exact h2 h
    · omega
theorem totI : ∀ x y, (ltOf cmpI) x y = false → (ltOf cmpI) y x = false → x = y := by
  intro x y h1 h2
  simp only [lt_cmpI, decide_eq_false_iff_not] at *
  have := cmpI_anti x y
  exact (cmpI_eq x y).1 (by omega)

def encJ (x : ID) : List Value := bv x.1
theorem flat_idc (l : List ID) : flatK encJ 32 l.toArray = (idc l).toArray := by
  apply Array.ext_getElem?
  intro t
  by_cases ht : t < l.length * 32
  · have hi : t / 32 < l.length := by omega
    have hj : t % 32 < 32 := Nat.mod_lt _ (by decide)
    have e1 : (bv (l[t / 32]).1)[t % 32]? = some ((bv (l[t / 32]).1)[t % 32]'(by simp [(l[t / 32]).2]; exact hj)) := List.getElem?_eq_getElem _
    have e2 := idc_get l (t / 32) (t % 32) hi _ e1
    rw [show t / 32 * 32 + t % 32 = t by omega] at e2
    have e3 : (idc l).toArray[t]? = _ := (List.getElem?_toArray ..).trans e2
    rw [e3]
    have h3 : t < (flatK encJ 32 l.toArray).size := by simpa using ht
    rw [Array.getElem?_eq_getElem h3]
    congr 1
    have := get_flatK encJ 32 l.toArray t (by simpa using ht)
    rw [getElem!_pos _ t h3] at this
    rw [this]
    simp [encJ, hi, (l[t / 32]).2, hj]
  · rw [Array.getElem?_eq_none (by simpa using ht), Array.getElem?_eq_none (by simp [idc_length]; omega)]
def sortBy (cf : ID → ID → Int) (l : List ID) : List ID := l.mergeSort fun x y => !(ltOf cf) y x
theorem sortBy_length (cf : ID → ID → Int) (l : List ID) : (sortBy cf l).length = l.length := List.length_mergeSort l
theorem sortBy_perm (cf : ID → ID → Int) (l : List ID) : (sortBy cf l).Perm l := List.mergeSort_perm l _

theorem putCells_idc (cur : Array Value) (l : List ID) (n : Nat) (hn : n = l.length * 32) (h : l.length * 32 ≤ cur.size) : (putCells id 0 (idc l).toArray cur).toList.take n = idc l := by
  subst hn
  have hl := idc_length l
  apply List.ext_getElem?
  intro j
  by_cases hj : j < l.length * 32
  · rw [List.getElem?_take_of_lt hj, Array.getElem?_toList]
    simp [putCells, hl, hj, show j < cur.size by omega]
  · rw [List.getElem?_take_eq_none (by omega), List.getElem?_eq_none (by omega)]

theorem sort_any (w0 w : World) (A : Option Addr) (c n : Nat) (l : List ID) (hn : l.length = n) (ho : OwnD w0 w A c l) (hl : l.length ≤ 1000000000000) (g : Nat) (cb : Array Value) (cf : ID → ID → Int) (hO : SWO (ltOf cf)) (hT : ∀ x y, (ltOf cf) x y = false → (ltOf cf) y x = false → x = y)
    (eg : ∀ args w, (callFunc g args).run Tryz.prog w = .ok (.enter g args) w) (hcmp : ∀ blk, A = some ⟨blk, 0, none⟩ → blk < w.heap.size → CmpLays Tryz.prog g cb encJ 32 cf blk 0 l.length w) :
    Calls Tryz.prog 54 #[.slice A n c, .func (.func g) #[] cb] w fun e w' => e = .returned (.tuple #[]) ∧ OwnD w0 w' A c (sortBy cf l) ∧ Fr (fun b => A.map (·.block) = some b) w w' := by
  subst hn
  by_cases h0 : l = []
  · subst h0
    refine (AnyF.slices_SortFunc_none Tryz.sortI A c _ w).mono ?_
    rintro e w' ⟨rfl, rfl⟩
    exact ⟨rfl, by simpa [sortBy] using ho, Fr.refl _ _⟩
  · have hlen : 0 < l.length := List.length_pos_iff.2 h0
    have ho' := ho
    rcases ho'.2 with ⟨hv, h00⟩ | ⟨blk, cap, cur, hv, hb, hg, hnc, hm, hs, ht⟩
    · omega
    · injection hv with h1 _ h3
      subst h1; subst h3
      have hblk : blk < w.heap.size := (Array.getElem?_eq_some_iff.1 hg).1
      have hH : HoldsK encJ 32 w blk 0 l.toArray := by
        unfold HoldsK
        rw [flat_idc]
        intro j hj
        have hj' : j < (idc l).length := by simpa using hj
        refine ⟨?_, by simp [World.frozen?, hg]⟩
        have := (Sl.own ho) (by intro h; rw [h] at hj'; simp at hj')
        obtain ⟨g', off', e, _, hc⟩ := this
        injection e with e
        injection e with e1 e2
        subst e1; subst e2
        rw [hc j _ (List.getElem?_eq_getElem hj')]
        simp [hj']
      have hS := AnyQ.slices_SortFunc_total Tryz.sortI 32 Tryz.isAgg45 sizeID encJ (fun x => by simp [encJ, x.2]) (fun x v hv => bv_one _ v hv) cf hO g cb blk 0 c l.toArray w eg (by simpa using hcmp blk rfl hblk) hH hblk (by simp; omega) hT
      change Calls Tryz.prog 54 _ _ _ at hS
      rw [List.size_toArray] at hS
      refine hS.mono ?_
      rintro e w' ⟨rfl, n, os, rfl⟩
      have hsl : (l.mergeSort fun x y => !(ltOf cf) y x) = sortBy cf l := rfl
      simp only [List.toList_toArray] at *
      rw [hsl]
      have hlen2 := sortBy_length cf l
      refine ⟨trivial, ⟨idc_length _, .inr ⟨blk, c, putCells id 0 (idc (sortBy cf l)).toArray cur, rfl, hb, ?_, by rw [hlen2]; exact hnc, hm, by simp [putCells, hs], putCells_idc _ _ _ rfl (by rw [hlen2, hs]; exact Nat.mul_le_mul_right 32 hnc)⟩⟩, ?_⟩
      · unfold sortWorldK putRowK
        rw [heap_grow_old _ _ (by simpa using hblk), flat_idc]
        simp [putRow, mapBlock, Sort.ahead, Array.getElem?_modify, hg, onCells]
      · refine ⟨rfl, rfl, rfl, by simp [sortWorldK, putRowK, Sort.ahead], fun k hk hne => ?_⟩
        unfold sortWorldK putRowK
        rw [heap_grow_old _ _ (by simpa using hk)]
        have : blk ≠ k := fun e => hne (by simp [e])
        simp [putRow, mapBlock, Sort.ahead, Array.getElem?_modify, this]
/-- sorted by sha.Cmp -/
theorem sortC_any (w0 w : World) (A : Option Addr) (c n : Nat) (l : List ID) (hn : l.length = n) (ho : OwnD w0 w A c l) (hl : l.length ≤ 1000000000000) :
    Calls Tryz.prog 54 #[.slice A n c, .func (.func 55) #[] #[]] w fun e w' => e = .returned (.tuple #[]) ∧ OwnD w0 w' A c (sortBy cmpI l) ∧ Fr (fun b => A.map (·.block) = some b) w w' := by
  refine sort_any w0 w A c n l hn ho hl 55 #[] cmpI swoI totI (enters_of Tryz.func55 (by kernel_rfl) rfl) (fun blk _ _ m os dk hdk x y => ?_)
  have := cmp_any (sortWorldK encJ 32 w blk 0 m dk os) x y
  simp only [encI, idA_eq] at this
  exact this.mono (fun e w' h => h)
end Go.Proofs.YtejkfekpgbmdiaaGreat
