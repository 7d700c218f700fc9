/- Contract: the law's alive. -/
import Derived.Test.YtahllkifmmjbdaaPkNKp
set_option linter.unusedVariables false
set_option linter.unusedSimpArgs false
namespace Go.Proofs.Ytahllkifmmjbdaa
open Go.RowKit Go.Maps Go.Sort
set_option maxRecDepth 100000
def a20:List UInt8:=[97,97,97,97,97,97,97,97,97,97,97,97,97,97,97,97,97,97,97,97]
def b21:List UInt8:=[97,97,97,97,97,97,97,97,97,97,97,97,97,97,97,97,97,97,97,97,98]
theorem ab_ne:nameH a20 ≠ nameH b21:=by
 intro h
 have:=congrArg (fun x=>x.1.head?) h
 revert this
 exact of_decide_eq_false (by kernel_rfl)
theorem ab_read:readF (writeF [a20,b21]) = .ok [⟨a20,0⟩,⟨b21,1⟩]:=by kernel_rfl
@[simp] theorem conv_cs1 (w:World) (o:Obj) (C:Array Value) (n c:Nat) :
  (convert 25 25 (.slice (some ⟨w.heap.size + 1,0,none⟩) n c)).run Try.prog ((w.alloc o).alloc (.cells C 5)) = .ok (.slice (some ⟨w.heap.size + 1,0,none⟩) n c) ((w.alloc o).alloc (.cells C 5 (C.size,C.size + 1))):=by
 have:=conv_const (w.alloc o) C n c
 rw [World.size_alloc] at this
 exact this
set_option maxHeartbeats 4000000 in
theorem alive08_any (w:World) (z:Int) (hz:w.cell? ⟨0,0,none⟩ = some (.int .i64 z)) (hw0:0 < w.heap.size):Calls Try.prog 4 #[] w (Gives w (.bool true)):=by
 have HZ:=Lib.hid (And.intro hz hw0)
 obtain ⟨W2,hW2⟩:∃ W2,W2 = (w.alloc (.cells (bv a20).toArray 5 (20,21))).alloc (.cells (bv b21).toArray 5 (21,22)):=⟨_,rfl⟩
 have f2:Fr noB w W2:=by rw [hW2];exact ((Fr.refl noB w).alloc _).alloc _
 have sa:Sl W2 (some ⟨w.heap.size,0,none⟩) (bv a20):=by rw [hW2];exact (Sl.newF w 5 (bv a20) (20,21)).fr0 ((Fr.refl noB _).alloc _)
 have sb:Sl W2 (some ⟨w.heap.size + 1,0,none⟩) (bv b21):=by
  have:=Sl.newF (w.alloc (.cells (bv a20).toArray 5 (20,21))) 5 (bv b21) (21,22)
  rw [World.size_alloc] at this
  rw [hW2];exact this
 have hW:(w.alloc (.cells #[.int .u8 97,.int .u8 97,.int .u8 97,.int .u8 97,.int .u8 97,.int .u8 97,.int .u8 97,.int .u8 97,.int .u8 97,.int .u8 97,.int .u8 97,.int .u8 97,.int .u8 97,.int .u8 97,.int .u8 97,.int .u8 97,.int .u8 97,.int .u8 97,.int .u8 97,.int .u8 97] 5 (20,21))).alloc (.cells #[.int .u8 97,.int .u8 97,.int .u8 97,.int .u8 97,.int .u8 97,.int .u8 97,.int .u8 97,.int .u8 97,.int .u8 97,.int .u8 97,.int .u8 97,.int .u8 97,.int .u8 97,.int .u8 97,.int .u8 97,.int .u8 97,.int .u8 97,.int .u8 97,.int .u8 97,.int .u8 97,.int .u8 98] 5 (21,22)) = W2:=hW2.symm
 have HF2:=Lib.hid f2
 have HSA:=Lib.hid sa
 have HSB:=Lib.hid sb
 have HW:=Lib.hid hW
 clear hz hw0 hW2 f2 sa sb hW
 go_enter Try.func4,Try.ntmps4
 go_upto_region 2 with fail
 rw [HW.out]
 clear HW
 have fb:Fr noB W2 (W2.alloc (.cells #[.slice (some ⟨w.heap.size,0,none⟩) 20 20,.slice (some ⟨w.heap.size + 1,0,none⟩) 21 21] 25)):=(Fr.refl noB W2).alloc _
 have HF3:=Lib.hid (HF2.out.step0 fb)
 have HBX:=Lib.hid (show BsIn (W2.alloc (.cells #[.slice (some ⟨w.heap.size,0,none⟩) 20 20,.slice (some ⟨w.heap.size + 1,0,none⟩) 21 21] 25)) [⟨some ⟨w.heap.size,0,none⟩,20,20⟩,⟨some ⟨w.heap.size + 1,0,none⟩,21,21⟩] [a20,b21] from
  (((BsIn.nil _).snoc (r:=⟨some ⟨w.heap.size,0,none⟩,20,20⟩) (x:=a20) ⟨rfl,Nat.le_refl _,HSA.out.fr0 fb,by decide⟩).snoc (r:=⟨some ⟨w.heap.size + 1,0,none⟩,21,21⟩) (x:=b21) ⟨rfl,Nat.le_refl _,HSB.out.fr0 fb,by decide⟩))
 have HSR:=Lib.hid (show Sl (W2.alloc (.cells #[.slice (some ⟨w.heap.size,0,none⟩) 20 20,.slice (some ⟨w.heap.size + 1,0,none⟩) 21 21] 25)) (some ⟨W2.heap.size,0,none⟩) (codB.row [⟨some ⟨w.heap.size,0,none⟩,20,20⟩,⟨some ⟨w.heap.size + 1,0,none⟩,21,21⟩]) from Sl.new W2 25 [.slice (some ⟨w.heap.size,0,none⟩) 20 20,.slice (some ⟨w.heap.size + 1,0,none⟩) 21 21])
 have HSB3:=Lib.hid (HSB.out.fr0 fb)
 obtain ⟨X,hX⟩:∃ X,X = writeF [a20,b21]:=⟨_,rfl⟩
 have HX:=Lib.hid hX
 obtain ⟨V,hV⟩:∃ V,V = W2.alloc (.cells #[.slice (some ⟨w.heap.size,0,none⟩) 20 20,.slice (some ⟨w.heap.size + 1,0,none⟩) 21 21] 25):=⟨_,rfl⟩
 have HV:=Lib.hid hV
 have CW:=Lib.hid (show Calls Try.prog 6 #[.slice (some ⟨W2.heap.size,0,none⟩) 2 2,.slice none 0 0] V (fun e w'=>∃ (A:Option Addr) (c:Nat),e = .returned (.tuple #[.slice A X.length c,.int .i64 0]) ∧ X.length ≤ c ∧ Sl w' A (bv X) ∧ Fr noB V w') from by
  rw [hV]
  refine (write_any _ (some ⟨W2.heap.size,0,none⟩) 2 2 _ [a20,b21] rfl HSR.out HBX.out (by simp) (fun r hr=>by
   rcases List.mem_cons.1 hr with rfl | hr
   ·show 20 ≤ 1048576;omega
   ·rw [List.mem_singleton.1 hr];show 21 ≤ 1048576;omega) (fun r hr=>by
   rcases List.mem_cons.1 hr with rfl | hr
   ·intro h;cases h
   ·rw [List.mem_singleton.1 hr];intro h;cases h) z (cell_fr0 HZ.out.1 HF3.out) (Nat.lt_of_lt_of_le HZ.out.2 HF3.out.size)).mono ?_
  rintro e w' ⟨hf,⟨A,c,he,ho⟩ | ⟨_,x,hx,y,hy,hne,hh⟩⟩
  ·rw [← hX] at he ho
   exact ⟨A,c,he,own_cap ho,Sl.own ho,hf⟩
  ·exfalso
   rcases List.mem_cons.1 hx with rfl | hx <;> rcases List.mem_cons.1 hy with rfl | hy
   ·exact hne rfl
   ·rw [List.mem_singleton.1 hy] at hh;exact ab_ne hh
   ·rw [List.mem_singleton.1 hx] at hh;exact ab_ne hh.symm
   ·exact hne (by rw [List.mem_singleton.1 hx,List.mem_singleton.1 hy]))
 rw [← hV] at HF3 HSB3
 clear hX hV HBX HSR
 clear fb
 go_upto_region 3 with (go_at_call 6;rw [← HV.out];refine CW.out.mono ?_;rintro e w3 ⟨A3,c3,rfl,hc3,hs3,hf3⟩;have HC3:=Lib.hid hc3;have HS3:=Lib.hid hs3;have HF4:=Lib.hid hf3;clear hc3 hs3 hf3)
 have CR:=Lib.hid (show Calls Try.prog 8 #[.slice A3 X.length c3,.nilFunc] w3 (fun e w'=>∃ P,e = .returned (.tuple #[.pointer (some ⟨P,0,none⟩),.int .i64 0]) ∧ PkAt w3 w' P [⟨a20,0⟩,⟨b21,1⟩] ∧ Fr noB w3 w') from by
  refine (pkRead_any w3 A3 _ c3 X rfl HC3.out HS3.out (by rw [HX.out];decide +kernel)).mono ?_
  rw [HX.out,ab_read]
  rintro e w' ⟨hf,⟨n,h,_⟩ | ⟨es,P,h,rfl,hp⟩⟩
  ·cases h
  ·have h:=Except.ok.inj h
   subst h
   exact ⟨P,rfl,hp,hf⟩)
 go_upto_region 6 with (go_at_call 8;refine CR.out.mono ?_;rintro e w5 ⟨P,rfl,hp,hf⟩;have HP:=Lib.hid hp;have HF5:=Lib.hid hf;clear hp hf)
 have HSB5:=Lib.hid ((HSB3.out.fr0 HF4.out).fr0 HF5.out)
 obtain ⟨y,hy⟩:∃ y,y = nameH b21:=⟨_,rfl⟩
 have HY:=Lib.hid hy
 have CS:=Lib.hid (show Calls Try.prog 11 #[.slice (some ⟨w.heap.size + 1,0,none⟩) 21 21] w5 (fun e w'=>e = .returned (encI y) ∧ Fr noB w5 w') by rw [hy];exact sum_sh w5 _ 21 21 b21 rfl (by decide) (by decide) HSB5.out)
 clear hy
 have CG:=Lib.hid (show ∀ w6,Fr noB w5 w6 → Calls Try.prog 10 #[.pointer (some ⟨P,0,none⟩),encI y] w6 (fun e w'=>∃ (A:Option Addr) (c:Nat),e = .returned (.tuple #[.slice A 21 c,.bool true]) ∧ Sl w' A (bv b21) ∧ Fr noB w6 w') from fun w6 f6=>by
  refine (pkget_any w3 w6 P _ (HP.out.fr0 f6) y).mono ?_
  rintro e w' ⟨hf,⟨hno,_⟩ | ⟨x,A,c,hx,hy,rfl,ho⟩⟩
  ·exact absurd (by rw [HY.out];simp) hno
  ·have hxb:x.b = b21:=by
    rcases List.mem_cons.1 hx with rfl | hx
    ·exact absurd (hy.trans HY.out) ab_ne
    ·rw [List.mem_singleton.1 hx]
   rw [hxb] at ho
   exact ⟨A,c,by rw [hxb];rfl,Sl.own ho,hf⟩)
 have CI:=Lib.hid (show ∀ w6,Fr noB w5 w6 → Calls Try.prog 13 #[.pointer (some ⟨P,0,none⟩)] w6 (fun e w'=>∃ (A:Option Addr) (c:Nat),e = .returned (.slice A 2 c) ∧ Fr noB w6 w') from fun w6 f6=>by
  refine (pkids_any w3 w6 P _ (HP.out.fr0 f6) (by simp)).mono ?_
  rintro e w' ⟨A,c,os,rfl,ho,hp,hf⟩
  have hl:(sortBy cmpI os).length = 2:=by rw [sortBy_length,hp.length_eq];rfl
  rw [hl]
  exact ⟨A,c,rfl,hf⟩)
 have CO:=Lib.hid (show ∀ w6,Fr noB w5 w6 → Calls Try.prog 14 #[.pointer (some ⟨P,0,none⟩)] w6 (fun e w'=>∃ (A:Option Addr) (c:Nat),e = .returned (.slice A 0 c) ∧ Fr noB w6 w') from fun w6 f6=>by
  refine (pkoutside_any w3 w6 P _ (HP.out.fr0 f6)).mono ?_
  rintro e w' ⟨A,c,os,rfl,ho,hp,hf⟩
  have hl:(sortBy cmpI os).length = 0:=by rw [sortBy_length,hp.length_eq];rfl
  rw [hl]
  exact ⟨A,c,rfl,hf⟩)
 go_wp2_with first
  | (go_at_call 11;refine CS.out.mono ?_;rintro e w6 ⟨rfl,hf6⟩;have HF6:=Lib.hid hf6;clear hf6)
  | (go_at_call 10;refine (CG.out w6 HF6.out).mono ?_;rintro e w7 ⟨A7,c7,rfl,hs7,hf7⟩;have HS7:=Lib.hid hs7;have HF7:=Lib.hid (HF6.out.step0 hf7);clear hs7 hf7)
  | (go_at_call 12;refine (show Calls Try.prog 12 #[.slice A7 21 c7,.slice (some ⟨w.heap.size + 1,0,none⟩) 21 21] w7 (BoolTo w7 (decide (b21 = b21))) from same_any w7 A7 _ c7 21 b21 b21 HS7.out (HSB5.out.fr0 HF7.out) (by decide) (by decide)).mono ?_;rw [show decide (b21 = b21) = true by simp];rintro e w8 ⟨rfl,hf8⟩;have HF8:=Lib.hid (HF7.out.step0 hf8);clear hf8)
  | (go_at_call 13;refine (CI.out w8 HF8.out).mono ?_;rintro e w9 ⟨A9,c9,rfl,hf9⟩;have HF9:=Lib.hid (HF8.out.step0 hf9);clear hf9)
  | (go_at_call 14;refine (CO.out w9 HF9.out).mono ?_;rintro e w10 ⟨A10,c10,rfl,hf10⟩;have HF10:=Lib.hid (HF9.out.step0 hf10);clear hf10)
 go_ret
 exact ⟨rfl,((HF3.out.step0 HF4.out).step0 HF5.out).step0 HF10.out⟩
end Go.Proofs.Ytahllkifmmjbdaa
