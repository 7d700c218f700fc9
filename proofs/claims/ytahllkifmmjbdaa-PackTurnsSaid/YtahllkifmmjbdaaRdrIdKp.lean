/- Contract: the reader's Id. -/
import Derived.Test.YtahllkifmmjbdaaRdrWKp
import Derived.Test.YtahllkifmmjbdaaBoxOKp
import Derived.Laws.CopyRow
import Derived.Laws.IdiomCopy
import Derived.Laws.Rows
set_option linter.unusedVariables false
set_option linter.unusedSimpArgs false
namespace Go.Proofs.Ytahllkifmmjbdaa
open Go.RowKit
theorem setRow_box {w:World} {b:Nat} {y:ID} (h:bxI w b = some y) (x:ID):bxI (w.setRow b (bv x.1).toArray) b = some x ∧ Fr (oneB b) w (w.setRow b (bv x.1).toArray):=by
 have hh:=bxI_at h
 have hl:=bxI_lt h
 refine ⟨bxI_of ?_,⟨rfl,rfl,rfl,?_,fun k hk hn=>?_⟩⟩
 ·simp only [ido,idA_eq] at hh ⊢
  exact setRow_heap w b _ _ _ _ hh
 ·simp [World.setRow]
 ·have:¬ b = k:=fun e=>hn e.symm
  simp only [World.setRow,Array.getElem?_modify]
  rw [if_neg this]
theorem idOf_eq (l:List UInt8) (h:l.length = 32):(idOf l).1 = l:=congrArg Subtype.val (show idOf l = ⟨l,h⟩ from dif_pos h)
theorem rdId_len (s:RS):(rdId s).2.1.length ≤ s.1.length:=rdTake_len _ _
set_option maxRecDepth 100000 in
theorem rid_any (w:World) (p:Nat) (s:RS) (Q:Nat → Prop) (h:Rdr w p s Q) (hQp:¬ Q p) (hQw:∀ b,Q b → b < w.heap.size) (hlen:s.1.length ≤ 140737488355328) :
  Calls Try.prog 72 #[.pointer (some ⟨p,0,none⟩)] w (RdrOf w p (encI (rdId s).1) (rdId s).2 Q):=by
 have f0:Fr noB w (w.alloc (ido zID)):=(Fr.refl noB w).alloc _
 have q0:bxI (w.alloc (ido zID)) w.heap.size = some zID:=bxI_new _ _
 have lp:=h.lt
 have h0:Rdr (w.alloc (ido zID)) p s Q:=h.fr f0 (by simp [noB]) (fun _ _=>by simp [noB])
 have hpP:¬ oneB p w.heap.size:=fun e=>by have:w.heap.size = p:=e;omega
 go_enter Try.func72,Try.ntmps72
 go_upto_region 1 with fail
 generalize w.alloc (ido zID) = w0 at f0 q0 h0 ⊢
 have hPl:w.heap.size ≤ w.heap.size:=Nat.le_refl _
 generalize hP:w.heap.size = P at q0 hpP hPl hQw ⊢
 have fd:=(Fr.refl noB w0).drew
 have qd:=bxI_fr q0 fd (by simp [noB])
 have hd:Rdr w0.drew p s Q:=h0.fr fd (by simp [noB]) (fun _ _=>by simp [noB])
 go_wp2_with fail
 refine wp_region_M 3 4 [⟨8,4,0⟩,⟨16,1,0⟩,⟨32,16,2⟩,⟨64,40,5⟩] [(true,0),(true,1),(false,2)] (fun w'=>bxI w' P = some zID) (by kernel_rfl) rfl (by kernel_rfl) (by kernel_rfl) (by kernel_rfl) qd (fun hA hF=>?_)
 iterate 2
  refine wpAnyS_take (v:=?_) hA rfl (fun _ _ _ h=>h) (Or.inl ⟨by rfl,?_⟩) hF (fun hA=>?_)
  rotate_left
  ·intro wS hSw;(try dsimp only at hSw);obtain s1:=hSw;first | (apply Eq.trans;apply ex_ld_id;exact rfl;exact rfl;assumption;with_reducible rfl) | (go_simp;try with_reducible rfl)
  try simp only [sA1,sA2,sA3,Act.put,sA4,sA5,sA6]
 refine wpAnyS_one hA rfl (fun K' hK=>?_)
 go_simp
 go_at_call 52
 refine (take_any w0.drew p 32 s Q hd hQp hlen (by omega)).mono ?_
 rintro e w2 ⟨hf2,hr2,A,c,rfl,hs2,ho2⟩
 have q2:=bxI_fr qd hf2 hpP
 refine hK.out _ _ q2 (fun hA=>?_)
 clear hK K'
 refine wpAnyS_end hA rfl ?_
 simp only [List.drop_succ_cons,List.drop_zero]
 clear hF
 have u8i:(Try.prog.info? 5).map (·.size) = some 1:=by kernel_rfl
 have fw2:Fr (oneB p) w w2:=(f0.any.step0 fd).trans hf2 (fun b _ h=>h)
 by_cases hl:s.2 = true ∨ s.1.length < 32
 ·have e1:rdTake 32 s = ([],([],true)):=by simp [rdTake,hl]
  have e2:rdId s = (zID,([],true)):=by unfold rdId;rw [e1];rfl
  rw [e1] at hs2 hr2 ⊢
  have E2:=Lib.hid e2
  have hcp:=fun ty=>run_copy_none (P:=Try.prog) w2 25 25 ty 5 (some ⟨P,0,none⟩) A 32 32 0 c Try.underlying25 u8i (by decide)
  have q3:=bxI_rd q2
  clear e1 e2
  obtain ⟨g1,g2,g3⟩:=putB_fr q2 zID
  have q4:=bxI_rd g3
  have hr4:=hr2.fr g1 (fun e=>hpP (by have:p = P:=e;exact this.symm)) (fun b hb e=>by have h1:=hQw b hb;have h2:b = P:=e;omega)
  go_wp2_with fail
  have hbx3:=bxI_at g3
  simp only [ido,idA_eq] at hbx3
  refine bodyPost_ret (results_cell_row rfl _ _ P 37 _ _ _ (by rfl) hbx3 Try.underlying37 ?_ ?_) rfl ?_
  ·rfl
  ·rw [List.size_toArray,bv_length,zID.2];exact infoID
  ·exact ⟨by rw [E2.out];simp only [encI,idA_eq],by rw [E2.out];exact hr4,fw2.step g1 (fun b hb=>.inl (by have h2:b = P:=hb;omega))⟩
 ·have hl1:s.2 = false:=by cases hs2:s.2 <;> simp_all
  have hl2:32 ≤ s.1.length:=by
   rcases Nat.lt_or_ge s.1.length 32 with h | h
   ·exact absurd (.inr h) hl
   ·exact h
  have e1:rdTake 32 s = (s.1.take 32,(s.1.drop 32,false)):=by unfold rdTake;rw [if_neg hl]
  have htl:(s.1.take 32).length = 32:=by rw [List.length_take];omega
  obtain ⟨x,hx⟩:∃ x:ID,x.1 = s.1.take 32:=⟨⟨s.1.take 32,htl⟩,rfl⟩
  have e2:rdId s = (x,(s.1.drop 32,false)):=by
   have h9:idOf (s.1.take 32) = x:=Subtype.ext ((idOf_eq _ htl).trans hx.symm)
   unfold rdId
   rw [e1]
   simp only
   rw [h9]
  rw [e1] at hs2 hr2 ⊢
  simp only at hs2 hr2 ⊢
  rw [← hx] at hs2 ⊢
  have hx32:=x.2
  have E2:=Lib.hid e2
  obtain ⟨g,off,rfl,_,hcell⟩:=hs2 (by intro h;have:=bv_length x.1;rw [h,hx32] at this;simp at this)
  have hb2:=bxI_at q2
  simp only [ido,idA_eq] at hb2
  have hadd:∀ j:Nat,(⟨g,off,none⟩:Addr).add j = ⟨g,off + j,none⟩:=by intro j;unfold Addr.add;split <;> simp_all
  have hcp:=fun ty=>run_copy_row (P:=Try.prog) w2 25 25 ty 5 P 0 32 32 ⟨g,off,none⟩ 32 c (bv zID.1).toArray 37 (bv x.1) Try.underlying25 u8i hb2 (by rw [bv_length,hx32];decide) (fun j v hv=>by rw [hadd];exact hcell j v hv) (by rw [bv_length,hx32];simp [zID]) (bv_one _)
  have hrow:((bv zID.1).toArray.toList.take 0 ++ bv x.1 ++ (bv zID.1).toArray.toList.drop (0 + (bv x.1).length)).toArray = (bv x.1).toArray:=by
   rw [bv_length,hx32]
   simp [zID]
  simp only [hrow] at hcp
  rw [hx32]
  obtain ⟨q3,k1⟩:=setRow_box q2 x
  have q4:=bxI_rd q3
  obtain ⟨g1,g2,g3⟩:=putB_fr q3 x
  have q5:=bxI_rd g3
  have hpP':∀ b,oneB P b → b = P:=fun b h=>h
  have hr3:=hr2.fr k1 (fun e=>hpP (by have:p = P:=e;exact this.symm)) (fun b hb e=>by have h1:=hQw b hb;have h2:b = P:=e;omega)
  have hr4:=hr3.fr g1 (fun e=>hpP (by have:p = P:=e;exact this.symm)) (fun b hb e=>by have h1:=hQw b hb;have h2:b = P:=e;omega)
  clear e1 e2 hx htl hl hb2 hrow hcell
  go_wp2_with fail
  have hbx3:=bxI_at g3
  simp only [ido,idA_eq] at hbx3
  refine bodyPost_ret (results_cell_row rfl _ _ P 37 _ _ _ (by rfl) hbx3 Try.underlying37 ?_ ?_) rfl ?_
  ·rfl
  ·rw [List.size_toArray,bv_length,x.2];exact infoID
  ·exact ⟨by rw [E2.out];simp only [encI,idA_eq],by rw [E2.out];exact hr4,(fw2.step k1 (fun b hb=>.inl (by have h2:b = P:=hb;omega))).step g1 (fun b hb=>.inl (by have h2:b = P:=hb;omega))⟩
end Go.Proofs.Ytahllkifmmjbdaa
