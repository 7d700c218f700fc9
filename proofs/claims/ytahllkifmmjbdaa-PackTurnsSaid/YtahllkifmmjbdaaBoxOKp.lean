/- Variables that hold an ID (a block of their own): BoxI's first part, for seats without dag. -/
import Derived.Test.YtahllkifmmjbdaaIdRowKp
import Derived.ChangeMaps
set_option linter.unusedVariables false
set_option linter.unusedSimpArgs false
namespace Go.Proofs.Ytahllkifmmjbdaa
open Go.RowKit
noncomputable def elseR {α:Type} (r:Result α):Result α:=r
theorem elseR_eq {α:Type} (r:Result α):r = elseR r:=rfl
theorem frameMapB {w:World} {r:Nat} (hlt:r < w.heap.size) (o:Obj):Fr (oneB r) w (ChangeMaps.setBlock w r o) ∧ (ChangeMaps.setBlock w r o).heap.size = w.heap.size ∧ (ChangeMaps.setBlock w r o).heap[r]? = some o:=by
 refine ⟨⟨rfl,rfl,rfl,by simp [ChangeMaps.setBlock],fun b hb hn=>?_⟩,by simp [ChangeMaps.setBlock],?_⟩
 ·simp only [ChangeMaps.setBlock,Array.getElem?_setIfInBounds]
  rw [if_neg (fun e=>hn e.symm)]
 ·simp [ChangeMaps.setBlock,hlt]
theorem idA_inj {x y:ID} (h:idA x = idA y):x = y:=encI_inj (congrArg Value.agg h)
open Classical in
noncomputable def bxI (w:World) (b:Nat):Option ID:=if h:∃ x,w.heap[b]? = some (ido x) then some h.choose else none
theorem bxI_of {w:World} {b:Nat} {x:ID} (h:w.heap[b]? = some (ido x)):bxI w b = some x:=by
 unfold bxI
 have hx:∃ x,w.heap[b]? = some (ido x):=⟨x,h⟩
 rw [dif_pos hx]
 have:=h.symm.trans hx.choose_spec
 injection this with this
 injection this with this
 exact congrArg some (idA_inj this).symm
theorem bxI_at {w:World} {b:Nat} {x:ID} (h:bxI w b = some x):w.heap[b]? = some (ido x):=by
 unfold bxI at h
 split at h
 ·rename_i hx
  injection h with h
  rw [← h];exact hx.choose_spec
 ·cases h
theorem bxI_lt {w:World} {b:Nat} {x:ID} (h:bxI w b = some x):b < w.heap.size:=(Array.getElem?_eq_some_iff.1 (bxI_at h)).1
theorem bxI_rd {w:World} {b:Nat} {x:ID} (h:bxI w b = some x):rdI w b 0 = some x:=by
 refine Rd.rdI fun j v hv=>?_
 have hh:=bxI_at h
 simp only [ido,idA_eq] at hh
 rw [Nat.zero_add,cell_of_row _ _ j (bv x.1).toArray 37 (0,0) hh]
 simpa using hv
theorem bxI_keep {w w':World} {b:Nat} (hb:w'.heap[b]? = w.heap[b]?):bxI w' b = bxI w b:=by
 cases hx:bxI w b with
 | some x=>exact bxI_of (hb.trans (bxI_at hx))
 | none =>
  cases hy:bxI w' b with
  | none=>rfl
  | some y=>rw [bxI_of (hb.symm.trans (bxI_at hy))] at hx;cases hx
theorem bxI_fr {M:Nat → Prop} {w w':World} {b:Nat} {x:ID} (h:bxI w b = some x) (f:Fr M w w') (hM:¬ M b):bxI w' b = some x:=(bxI_keep (f.block b (bxI_lt h) hM)).trans h
@[simp] theorem bxI_drew (w:World) (b:Nat):bxI w.drew b = bxI w b:=bxI_keep rfl
@[simp] theorem bxI_new (w:World) (x:ID):bxI (w.alloc (ido x)) w.heap.size = some x:=bxI_of (heap_alloc_new w _)
theorem bxI_new' (w:World) (x:ID) (b:Nat) (hb:b = w.heap.size):bxI (w.alloc (ido x)) b = some x:=by subst hb;exact bxI_new w x
abbrev putB (w:World) (b:Nat) (x:ID):World:=ChangeMaps.setBlock w b (ido x)
theorem putB_fr {w:World} {b:Nat} {y:ID} (h:bxI w b = some y) (x:ID):Fr (oneB b) w (putB w b x) ∧ (putB w b x).heap.size = w.heap.size ∧ bxI (putB w b x) b = some x:=by
 obtain ⟨g1,g2,g3⟩:=frameMapB (bxI_lt h) (ido x)
 exact ⟨g1,g2,bxI_of g3⟩
theorem stI_box {w:World} {b:Nat} {y:ID} (h:bxI w b = some y) (x:ID):stI w (.pointer (some ⟨b,0,none⟩)) (encI x) = .ok .skip (putB w b x):=by
 have hh:=bxI_at h
 unfold stI
 simp only [encI,ido,idA_eq] at hh ⊢
 have hl:(bv x.1).toArray.size = 32:=by simp [x.2]
 have hly:(bv y.1).length = 32:=by simp [y.2]
 rw [run_storeAt_mid (P:=Try.prog) w b 0 37 (bv x.1).toArray (fun j hj=>?_) (by rw [hl];exact infoID) (all_oneCell_toArray (bv_one _))]
 ·simp only [Result.andThen_ok,List.toList_toArray]
  congr 1
  have hw:∀ (w:World) (c:List Value) (vs:List Value) (o:Nat),w.heap[b]? = some (.cells c.toArray 37 (0,0)) → o + vs.length ≤ c.length → (w.setCells b o vs).heap = w.heap.setIfInBounds b (.cells (c.take o ++ vs ++ c.drop (o + vs.length)).toArray 37 (0,0)) ∧ (w.setCells b o vs) = { w with heap:=(w.setCells b o vs).heap }:=by
   intro w c vs
   induction vs generalizing w c with
   | nil =>
    intro o hc ho
    refine ⟨?_,rfl⟩
    simp only [World.setCells,List.append_nil,List.length_nil,Nat.add_zero,List.take_append_drop]
    apply Array.ext_getElem?
    intro k
    rw [Array.getElem?_setIfInBounds]
    split
    ·rename_i e;subst e;rw [if_pos (Array.getElem?_eq_some_iff.1 hc).1];exact hc
    ·rfl
   | cons v vs ih =>
    intro o hc ho
    simp only [List.length_cons] at ho
    have h1:(w.setCell ⟨b,o,none⟩ v).heap[b]? = some (.cells (c.set o v).toArray 37 (0,0)):=Blk.set (cs:=c) hc o v
    obtain ⟨e1,e2⟩:=ih (w.setCell ⟨b,o,none⟩ v) (c.set o v) (o + 1) h1 (by simp;omega)
    rw [World.setCells]
    refine ⟨?_,?_⟩
    ·rw [e1]
     have e3:(c.set o v).take (o + 1) ++ vs ++ (c.set o v).drop (o + 1 + vs.length) = c.take o ++ (v :: vs) ++ c.drop (o + (v :: vs).length):=by
      rw [List.take_add_one,List.take_set_of_le (Nat.le_refl _),List.getElem?_set_self (by omega),List.drop_set_of_lt (by omega)]
      simp [Nat.add_comm,Nat.add_left_comm]
     rw [e3]
     apply Array.ext_getElem?
     intro k
     rw [Array.getElem?_setIfInBounds,Array.getElem?_setIfInBounds]
     have es:(w.setCell ⟨b,o,none⟩ v).heap.size = w.heap.size:=by simp [World.setCell]
     rw [es]
     split
     ·rfl
     ·rename_i hne
      exact Below.heap_setCell w ⟨b,o,none⟩ v k (fun e=>hne e.symm)
    ·rw [e2];rfl
  obtain ⟨e1,e2⟩:=hw w (bv y.1) (bv x.1) 0 hh (by simp [x.2,y.2])
  have hdr:(bv y.1).drop 32 = []:=List.drop_eq_nil_of_le (by simp [y.2])
  rw [e2,e1]
  simp [putB,ChangeMaps.setBlock,ido,idA_eq,x.2,hdr]
 ·rw [hl] at hj
  rw [Nat.zero_add]
  refine ⟨?_,by simp [World.frozen?,hh]⟩
  rw [cell_of_row w b j (bv y.1).toArray 37 (0,0) hh]
  simp [y.2,hj]
@[simp] theorem stI_bx (w:World) (b:Nat) (x:ID):stI w (.pointer (some ⟨b,0,none⟩)) (encI x) = match bxI w b with | some _=>.ok .skip (putB w b x) | none=>elseR (stI w (.pointer (some ⟨b,0,none⟩)) (encI x)):=by
 cases h:bxI w b with
 | none=>exact elseR_eq _
 | some y=>exact stI_box h x
end Go.Proofs.Ytahllkifmmjbdaa
