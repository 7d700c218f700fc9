/- Contract: stamp.Put. (ex_ldS_at) Contracts: obj.PutBlob, obj.PutLabel. (ex_ldS_at) Contract: obj.PutChange. Contract: obj.PutDir. (ex_ldS_at) -/
import Derived.Test.YtjpieiccpbcabaaGreatFrameOKu
import Derived.Test.YtjpieiccpbcabaaGreatStWKu
set_option linter.unusedVariables false
set_option linter.unusedSimpArgs false
namespace Go.Proofs.YtjpieiccpbcabaaGreat
open Go.RowKit
theorem clone_z (w:World) (A:Option Addr) (c n:Nat) (l:List UInt8) (hn:l.length = n) (hs:Sl w A (bv l)) (hb:l.length ≤ 100000000000):Calls Tryz.prog 128 #[.slice A n c] w (NewBytes w l):=by
 subst hn
 exact (clone_n w A c l _ rfl hs (by omega))
theorem opB_len {o:Opn} (h:goodOp o = true):(opB o).length ≤ 4000:=by
 have hg:=h
 simp only [goodOp,Bool.and_eq_true] at h
 obtain ⟨⟨h1,h2⟩,h3⟩:=h
 have a1:=stB_len (okSt_of h1)
 have a2:=stB_len (okSt_of h2)
 unfold opB
 rw [if_pos hg]
 by_cases hk:o.Kind = 1
 ·rw [if_pos hk] at h3
  simp only [moveOk,Bool.and_eq_true,decide_eq_true_eq,Bool.or_eq_true] at h3
  obtain ⟨⟨⟨⟨h4,h5⟩,h6⟩,h7⟩,h8⟩:=h3
  have hp:okSt o.Parent:=by
   rcases h5 with h5 | h5
   ·exact okSt_of h5
   ·simp only [fixedS,Bool.and_eq_true,Bool.or_eq_true,decide_eq_true_eq] at h5
    exact ⟨by omega,by omega,by omega,by omega⟩
  have a3:=stB_len hp
  have a4:=nameOk_le h6
  rw [if_pos hk]
  have a5:=numB_length o.Kind.toNat (by omega)
  have a6:=numB_length o.Name.length (by omega)
  simp only [List.length_append,txB]
  omega
 ·rw [if_neg hk] at h3
  by_cases hk2:o.Kind = 2
  ·rw [if_pos hk2] at h3
   simp only [editOk,Bool.and_eq_true,decide_eq_true_eq,List.all_eq_true] at h3
   obtain ⟨⟨⟨⟨⟨⟨h4,h5⟩,h6⟩,h7⟩,h8⟩,h9⟩,h10⟩:=h3
   rw [if_neg hk]
   have a5:=numB_length o.Kind.toNat (by omega)
   have a6:=numB_length o.Over.length (by omega)
   have a7:∀ l:List St,(∀ s ∈ l,rightS s = true) → (l.flatMap stB).length ≤ l.length * 20:=by
    intro l
    induction l with
    | nil=>simp
    | cons x l ih =>
     intro hh
     have:=ih (fun s hs=>hh s (by simp [hs]))
     have h0:=stB_len (okSt_of (hh x (by simp)))
     simp only [List.flatMap_cons,List.length_append,List.length_cons]
     omega
   have a8:=a7 o.Over (fun s hs=>(h9 s hs).1)
   have a9:=o.Data.2
   simp only [List.length_append]
   omega
  ·rw [if_neg hk2] at h3;cases h3
def PpR (w W7:World) (l0:List UInt8) (ov:List St) (gk:Nat) (v iv:Value) (wr:World):Prop :=
 ∃ (k:Nat) (A:Option Addr) (c:Nat) (l:List UInt8),v = .slice A l.length c ∧ iv = .int .i64 (k:Int) ∧ gk = ov.length - k ∧ k ≤ ov.length ∧ l = l0 ++ (ov.take k).flatMap stB ∧ l.length ≤ l0.length + k * 20 ∧ wr.ownsRow w.heap.size 5 1 (.slice A l.length c) l.length (bv l) ∧ Fr noB W7 wr
set_option maxRecDepth 100000 in
set_option maxHeartbeats 4000000 in
theorem put_any (w:World) (A:Option Addr) (c n:Nat) (l:List UInt8) (hn:l.length = n) (hs:Sl w A (bv l)) (hb:l.length ≤ 50000000000) (r:OpW) (o:Opn) (h:OpIn w r o) :
  Calls Tryz.prog 95 #[.slice A n c,.agg (codO.A r)] w (NewBytes w (l ++ opB o)):=by
 subst hn
 have f0:Fr noB w (w.alloc (.cells (codO.A r) 83)):=(Fr.refl noB w).alloc _
 obtain ⟨q1,q2,q3,q4,q5,q6,q7,q8,q9,q10⟩:=opAt (Cod.rd_new w 83 r)
 have hP:w.heap.size < (w.alloc (.cells (codO.A r) 83)).heap.size:=by simp
 have hlen:=opB_len (o:=o)
 replace h:=h.fr f0
 replace hs:=hs.fr0 f0
 go_enter Tryz.func95,Tryz.ntmps95
 go_upto_region 1 with fail
 generalize w.alloc (.cells (codO.A r) 83) = W0 at f0 hs h q1 q4 q5 q6 q7 q8 q9 q10 hP ⊢
 generalize hPe:w.heap.size = P at q1 q4 q5 q6 q7 q8 q9 q10 hP ⊢
 by_cases hg:goodOp o = true
 ·replace hlen:=hlen hg
  have hg2:=hg
  simp only [goodOp,Bool.and_eq_true] at hg2
  obtain ⟨⟨g1,g2⟩,g3⟩:=hg2
  have ea:o.At = r.At:=by rw [h.eq];rfl
  have en:o.Node = r.Node:=by rw [h.eq];rfl
  have ek:o.Kind = r.Kind:=by rw [h.eq];rfl
  have ep:o.Parent = r.Parent:=by rw [h.eq];rfl
  have em:o.Name = r.Name:=by rw [h.eq];rfl
  have ed:o.Data = r.Data:=by rw [h.eq];rfl
  have o1:=okSt_of g1
  have o2:=okSt_of g2
  have hopB:opB o = numB r.Kind.toNat ++ stB r.At ++ stB r.Node ++ (if r.Kind = 1 then stB r.Parent ++ txB r.Name else r.Data.1 ++ numB o.Over.length ++ o.Over.flatMap stB):=by
   unfold opB
   rw [if_pos hg,ea,en,ek,ep,em,ed]
  have hk12:r.Kind = 1 ∨ r.Kind = 2:=by
   by_cases h1:o.Kind = 1
   ·exact .inl (by rw [← ek];exact h1)
   ·rw [if_neg h1] at g3
    by_cases h2:o.Kind = 2
    ·exact .inr (by rw [← ek];exact h2)
    ·rw [if_neg h2] at g3;cases g3
  rw [ea] at o1
  rw [en] at o2
  have a1:=stB_len o1
  have a2:=stB_len o2
  have a3:=numB_length r.Kind.toNat (by omega)
  have p1:((r.Kind.toNat:Nat):Int) = r.Kind:=by omega
  have p2:r.Kind.toNat ≤ 4611686018427387904:=by omega
  have hP1:=hP
  have HG:=Lib.hid hg
  have HOB:=Lib.hid hopB
  have PK:=Lib.hid p1
  have HIN:=Lib.hid h
  have G3:=Lib.hid g3
  have EK:=Lib.hid (And.intro ek (And.intro ep em))
  clear hg g1 g2 g3 hopB p1 ea en ek ep em ed
  go_upto_region 3 with (go_at_call 105;refine (sgood_any _ r o HIN.out).mono ?_;rintro e w1 ⟨rfl,f1⟩;rw [HG.out])
  obtain ⟨L1,L2,L3,L4,L5,L6⟩:=f1.same
  replace q1:=(L1 P 0 hP).trans q1
  replace q4:=(L2 P 1 hP).trans q4
  replace q5:=(L2 P 3 hP).trans q5
  replace q6:=(L2 P 5 hP).trans q6
  replace q7:=(L1 P 7 hP).trans q7
  replace q8:=(L3 P 8 hP).trans q8
  replace q9:=(L1 P 40 hP).trans q9
  clear L1 L2 L3 L4 L5 L6 q10
  replace hP:=Nat.lt_of_lt_of_le hP f1.size
  replace hs:=hs.fr0 f1
  have HIN1:=Lib.hid (HIN.out.fr f1)
  replace f0:=f0.step0 f1
  clear f1 HIN h hP1
  generalize w1 = W1 at f0 q1 q4 q5 q6 q7 q8 q9 hP hs HIN1 ⊢
  have fd:=(Fr.refl noB W1).drew
  have keep:∀ w' w'':World,Fr noB w' w'' → (w'.cell? ⟨P,0,none⟩ = some (.int .i64 r.Kind) ∧ codS.rd w' P 1 = some r.At ∧ codS.rd w' P 3 = some r.Node) → (w''.cell? ⟨P,0,none⟩ = some (.int .i64 r.Kind) ∧ codS.rd w'' P 1 = some r.At ∧ codS.rd w'' P 3 = some r.Node) :=
   fun w' w'' f h=>⟨cell_fr0 h.1 f,Cod.rd_fr0 h.2.1 f,Cod.rd_fr0 h.2.2 f⟩
  refine wp_region_M 10 11 [⟨4096,1,0⟩,⟨8192,8,0⟩,⟨16384,8192,2⟩,⟨32768,20480,5⟩,⟨65536,8,0⟩,⟨131072,65536,16⟩,⟨262144,163840,40⟩,⟨524288,8,0⟩,⟨1048576,524288,128⟩,⟨2097152,1310720,320⟩,⟨1,2097152,1023⟩] [(true,0),(true,1),(true,2),(true,4),(true,5),(true,7),(true,8),(false,3),(false,6),(false,9)] (fun w'=>w'.cell? ⟨P,0,none⟩ = some (.int .i64 r.Kind) ∧ codS.rd w' P 1 = some r.At ∧ codS.rd w' P 3 = some r.Node) (by kernel_rfl) rfl (by kernel_rfl) (by kernel_rfl) (by kernel_rfl) ⟨cell_fr0 q1 fd,Cod.rd_fr0 q4 fd,Cod.rd_fr0 q5 fd⟩ (fun hA hF=>?_)
  iterate 7
   refine wpAnyS_take (v:=?_) hA rfl (fun _ _ _ h=>h) (Or.inl ⟨by rfl,?_⟩) hF (fun hA=>?_)
   rotate_left
   ·intro wS hSw;(try dsimp only at hSw);obtain ⟨s1,s2,s3⟩:=hSw;first | (apply Eq.trans;apply ex_ld_id;exact rfl;exact rfl;assumption;with_reducible rfl) | (apply Eq.trans;apply ex_ldS_at;exact rfl;exact rfl;assumption;with_reducible rfl) | (go_simp;try with_reducible rfl)
   try simp only [sA1,sA2,sA3,Act.put,sA4,sA5,sA6]
  refine wpAnyS_one hA rfl (fun K' hK=>?_)
  go_simp
  go_at_call 93
  refine (enum_z W1.drew A c l l.length rfl (hs.fr0 fd) (by omega) r.Kind r.Kind.toNat PK.out p2).mono ?_
  rintro e w3 ⟨A3,c3,rfl,ho3,hf3⟩
  obtain ⟨l3,hl3⟩:∃ x:List UInt8,x = l ++ numB r.Kind.toNat:=⟨_,rfl⟩
  rw [← hl3] at ho3 ⊢
  have b3:l3.length ≤ l.length + 9:=by rw [hl3,List.length_append];omega
  have HL3:=Lib.hid hl3
  clear hl3
  have g3:=(f0.step0 fd).step0 hf3
  replace hF:=keep _ _ hf3 hF
  refine hK.out _ _ hF (fun hA=>?_)
  clear hK K'
  as_aux_lemma =>
  refine wpAnyS_one hA rfl (fun K' hK=>?_)
  go_simp
  go_at_call 129
  refine (sput_any w3 A3 c3 l3.length l3 rfl (Sl.own ho3) (by omega) r.At o1).mono ?_
  rintro e w4 ⟨A4,c4,rfl,ho4,hf4⟩
  obtain ⟨l4,hl4⟩:∃ x:List UInt8,x = l3 ++ stB r.At:=⟨_,rfl⟩
  rw [← hl4] at ho4 ⊢
  have b4:l4.length ≤ l.length + 29:=by rw [hl4,List.length_append];omega
  have HL4:=Lib.hid hl4
  clear hl4
  have g4:=(g3).step0 hf4
  replace hF:=keep _ _ hf4 hF
  refine hK.out _ _ hF (fun hA=>?_)
  clear hK K'
  as_aux_lemma =>
  refine wpAnyS_one hA rfl (fun K' hK=>?_)
  go_simp
  go_at_call 129
  refine (sput_any w4 A4 c4 l4.length l4 rfl (Sl.own ho4) (by omega) r.Node o2).mono ?_
  rintro e w5 ⟨A5,c5,rfl,ho5,hf5⟩
  obtain ⟨l5,hl5⟩:∃ x:List UInt8,x = l4 ++ stB r.Node:=⟨_,rfl⟩
  rw [← hl5] at ho5 ⊢
  have b5:l5.length ≤ l.length + 49:=by rw [hl5,List.length_append];omega
  have HL5:=Lib.hid hl5
  clear hl5
  have g5:=(g4).step0 hf5
  replace hF:=keep _ _ hf5 hF
  refine hK.out _ _ hF (fun hA=>?_)
  clear hK K'
  as_aux_lemma =>
  refine wpAnyS_end hA rfl ?_
  simp only [List.drop_succ_cons,List.drop_zero]
  clear hF keep
  have hwf:Fr noB W1 w5:=((fd.step0 hf3).step0 hf4).step0 hf5
  have r1:=cell_fr0 q1 hwf
  have hs5:=Sl.own ho5
  have hbase5:w.heap.size ≤ w4.heap.size:=g4.size
  have HL5':=Lib.hid (show l5 = l ++ (numB r.Kind.toNat ++ stB r.At ++ stB r.Node) by rw [HL5.out,HL4.out,HL3.out];simp [List.append_assoc])
  by_cases hk:r.Kind = 1
  ·have k1:(r.Kind == 1) = true:=by rw [hk];rfl
   have hop:opB o = (numB r.Kind.toNat ++ stB r.At ++ stB r.Node) ++ (stB r.Parent ++ txB r.Name):=by rw [HOB.out,if_pos hk]
   have g3:=G3.out
   rw [if_pos (by rw [EK.out.1];exact hk)] at g3
   simp only [moveOk,Bool.and_eq_true,decide_eq_true_eq,Bool.or_eq_true] at g3
   obtain ⟨⟨⟨⟨h4,h5⟩,h6⟩,h7⟩,h8⟩:=g3
   have hp:okSt r.Parent:=by
    rw [← EK.out.2.1]
    rcases h5 with h5 | h5
    ·exact okSt_of h5
    ·simp only [fixedS,Bool.and_eq_true,Bool.or_eq_true,decide_eq_true_eq] at h5
     exact ⟨by omega,by omega,by omega,by omega⟩
   have hnl:r.Name.length ≤ 60:=by rw [← EK.out.2.2];exact nameOk_le h6
   have a4:=stB_len hp
   have HOP:=Lib.hid hop
   clear h4 h5 h6 h7 h8 hop hk
   go_upto_region 5 with fail
   have fd5:=(Fr.refl noB w5).drew
   have keep2:∀ w' w'':World,Fr noB w' w'' → (codS.rd w' P 5 = some r.Parent ∧ w'.cell? ⟨P,7,none⟩ = some (.string (str r.Name))) → (codS.rd w'' P 5 = some r.Parent ∧ w''.cell? ⟨P,7,none⟩ = some (.string (str r.Name))):=fun w' w'' f h=>⟨Cod.rd_fr0 h.1 f,cell_fr0 h.2 f⟩
   refine wp_region_M 7 8 [⟨33554432,1,0⟩,⟨67108864,8,0⟩,⟨134217728,67108864,2⟩,⟨268435456,167772160,5⟩,⟨536870912,8,0⟩,⟨1073741824,536870912,16⟩,⟨2147483648,1342177280,40⟩,⟨16,2147483648,127⟩] [(true,0),(true,1),(true,2),(true,4),(true,5),(false,3),(false,6)] (fun w'=>codS.rd w' P 5 = some r.Parent ∧ w'.cell? ⟨P,7,none⟩ = some (.string (str r.Name))) (by kernel_rfl) rfl (by kernel_rfl) (by kernel_rfl) (by kernel_rfl) ⟨Cod.rd_fr0 q6 (hwf.step0 fd5),cell_fr0 q7 (hwf.step0 fd5)⟩ (fun hA hF=>?_)
   iterate 5
    refine wpAnyS_take (v:=?_) hA rfl (fun _ _ _ h=>h) (Or.inl ⟨by rfl,?_⟩) hF (fun hA=>?_)
    rotate_left
    ·intro wS hSw;(try dsimp only at hSw);obtain ⟨s1,s2⟩:=hSw;first | (apply Eq.trans;apply ex_ld_id;exact rfl;exact rfl;assumption;with_reducible rfl) | (apply Eq.trans;apply ex_ldS_at;exact rfl;exact rfl;assumption;with_reducible rfl) | (go_simp;try with_reducible rfl)
    try simp only [sA1,sA2,sA3,Act.put,sA4,sA5,sA6]
   refine wpAnyS_one hA rfl (fun K' hK=>?_)
   go_simp
   go_at_call 129
   refine (sput_any w5.drew A5 c5 l5.length l5 rfl (hs5.fr0 fd5) (by omega) r.Parent hp).mono ?_
   rintro e w6 ⟨A6,c6,rfl,ho6,hf6⟩
   obtain ⟨l6,hl6⟩:∃ x:List UInt8,x = l5 ++ stB r.Parent:=⟨_,rfl⟩
   rw [← hl6] at ho6 ⊢
   have b6:l6.length ≤ l.length + 69:=by rw [hl6,List.length_append];omega
   have HL6:=Lib.hid hl6
   clear hl6
   have g6:=(g5.step0 fd5).step0 hf6
   replace hF:=keep2 _ _ hf6 hF
   refine hK.out _ _ hF (fun hA=>?_)
   clear hK K'
   as_aux_lemma =>
   refine wpAnyS_one hA rfl (fun K' hK=>?_)
   go_simp
   go_at_call 96
   refine (etext_any w6 A6 c6 l6.length l6 rfl (Sl.own ho6) (by omega) r.Name (by omega)).mono ?_
   rintro e w7 ⟨A7,c7,rfl,ho7,hf7⟩
   have g7:=g6.step0 hf7
   have HE:=Lib.hid (show l6 ++ txB r.Name = l ++ opB o by rw [HL6.out,HL5'.out,HOP.out];simp [List.append_assoc])
   rw [HE.out] at ho7 ⊢
   replace hF:=keep2 _ _ hf7 hF
   refine hK.out _ _ hF (fun hA=>?_)
   clear hK K'
   as_aux_lemma =>
   refine wpAnyS_end hA rfl ?_
   simp only [List.drop_succ_cons,List.drop_zero]
   clear hF keep2
   go_wp2_with fail
   go_ret
   exact ⟨A7,c7,by first | rfl | simp,own_base ho7 g6.size,g7⟩
  ·have k1:(r.Kind == 1) = false:=by rw [beq_eq_false_iff_ne];exact hk
   have hk2:r.Kind = 2:=hk12.resolve_left hk
   have hop:opB o = (numB r.Kind.toNat ++ stB r.At ++ stB r.Node) ++ (r.Data.1 ++ numB o.Over.length ++ o.Over.flatMap stB):=by rw [HOB.out,if_neg hk]
   have g3:=G3.out
   rw [if_neg (by rw [EK.out.1];exact hk),if_pos (by rw [EK.out.1];exact hk2)] at g3
   simp only [editOk,Bool.and_eq_true,decide_eq_true_eq,List.all_eq_true] at g3
   obtain ⟨⟨⟨⟨⟨⟨h4,h5⟩,h6⟩,h7⟩,h8⟩,h9⟩,h10⟩:=g3
   have hov:=HIN1.out.len
   have hsl:=HIN1.out.sl
   generalize o.Over = ov at hop h8 h9 hov hsl
   have hall:∀ s ∈ ov,okSt s:=fun s hs=>okSt_of (h9 s hs).1
   have hn64:r.n ≤ 64:=by rw [← hov];exact h8
   have HOP:=Lib.hid hop
   have HOV:=Lib.hid hov
   clear h4 h5 h6 h7 h8 h9 h10 hop hk hk2 hk12 hov
   go_upto_region 6 with fail
   have fd5:=(Fr.refl noB w5).drew
   have keep2:∀ w' w'':World,Fr noB w' w'' → (rdI w' P 8 = some r.Data ∧ w'.cell? ⟨P,40,none⟩ = some (.slice r.A r.n r.c)) → (rdI w'' P 8 = some r.Data ∧ w''.cell? ⟨P,40,none⟩ = some (.slice r.A r.n r.c)):=fun w' w'' f h=>⟨rdI_fr h.1 (rdI_lt h.1) f (by simp [noB]),cell_fr0 h.2 f⟩
   refine wp_region_M 8 9 [⟨4294967296,1,0⟩,⟨8589934592,8,0⟩,⟨17179869184,8589934592,2⟩,⟨34359738368,21474836480,5⟩,⟨68719476736,8,0⟩,⟨137438953472,68719476736,16⟩,⟨274877906944,137438953472,32⟩,⟨549755813888,309237645312,72⟩,⟨1,549755813888,255⟩] [(true,0),(true,1),(true,2),(true,4),(true,5),(true,6),(false,3),(false,7)] (fun w'=>rdI w' P 8 = some r.Data ∧ w'.cell? ⟨P,40,none⟩ = some (.slice r.A r.n r.c)) (by kernel_rfl) rfl (by kernel_rfl) (by kernel_rfl) (by kernel_rfl) ⟨rdI_fr q8 (rdI_lt q8) (hwf.step0 fd5) (by simp [noB]),cell_fr0 q9 (hwf.step0 fd5)⟩ (fun hA hF=>?_)
   iterate 6
    refine wpAnyS_take (v:=?_) hA rfl (fun _ _ _ h=>h) (Or.inl ⟨by rfl,?_⟩) hF (fun hA=>?_)
    rotate_left
    ·intro wS hSw;(try dsimp only at hSw);obtain ⟨s1,s2⟩:=hSw;first | (apply Eq.trans;apply ex_ld_id;exact rfl;exact rfl;assumption;with_reducible rfl) | (apply Eq.trans;apply ex_ldS_at;exact rfl;exact rfl;assumption;with_reducible rfl) | (go_simp;try with_reducible rfl)
    try simp only [sA1,sA2,sA3,Act.put,sA4,sA5,sA6]
   refine wpAnyS_one hA rfl (fun K' hK=>?_)
   go_simp
   go_at_call 94
   refine (eid_any w5.drew A5 c5 l5.length l5 rfl (hs5.fr0 fd5) (by omega) r.Data).mono ?_
   rintro e w6 ⟨A6,c6,rfl,ho6,hf6⟩
   obtain ⟨l6,hl6⟩:∃ x:List UInt8,x = l5 ++ r.Data.1:=⟨_,rfl⟩
   rw [← hl6] at ho6 ⊢
   have b6:l6.length ≤ l.length + 81:=by rw [hl6,List.length_append,r.Data.2];omega
   have HL6:=Lib.hid hl6
   clear hl6
   have g6:=(g5.step0 fd5).step0 hf6
   replace hF:=keep2 _ _ hf6 hF
   refine hK.out _ _ hF (fun hA=>?_)
   clear hK K'
   as_aux_lemma =>
   refine wpAnyS_one hA rfl (fun K' hK=>?_)
   go_simp
   go_at_call 93
   refine (enum_z w6 A6 c6 l6 l6.length rfl (Sl.own ho6) (by omega) (r.n:Int) r.n rfl (by omega)).mono ?_
   rintro e w7 ⟨A7,c7,rfl,ho7,hf7⟩
   obtain ⟨l7,hl7⟩:∃ x:List UInt8,x = l6 ++ numB r.n:=⟨_,rfl⟩
   rw [← hl7] at ho7 ⊢
   have a9:=numB_length r.n (by omega)
   have b7:l7.length ≤ l.length + 91:=by rw [hl7,List.length_append];omega
   have HL7:=Lib.hid hl7
   clear hl7
   have g7:=g6.step0 hf7
   replace hF:=keep2 _ _ hf7 hF
   refine hK.out _ _ hF (fun hA=>?_)
   clear hK K'
   as_aux_lemma =>
   refine wpAnyS_end hA rfl ?_
   simp only [List.drop_succ_cons,List.drop_zero]
   have hcell:=hF.2
   clear hF keep2
   have hFr:Fr noB W1 w7:=((hwf.step0 fd5).step0 hf6).step0 hf7
   replace hsl:=hsl.fr0 hFr
   have ho7':=own_base ho7 g6.size
   have hP7:P < w7.heap.size:=Nat.lt_of_lt_of_le hP hFr.size
   rw [← HOV.out] at hcell
   have HRN:=Lib.hid HOV.out
   have HFIN:=Lib.hid (show l7 ++ ov.flatMap stB = l ++ opB o by rw [HL7.out,HL6.out,HL5'.out,HOP.out,HOV.out];simp [List.append_assoc])
   clear HL3 HL4 HL5 HL6 HL7 HL5' HOP
   generalize r.A = RA at hsl hcell ⊢
   go_wp2_with fail
   go_loopg [0,43] ov.length (fun gk v iv wr=>PpR w w7 l7 ov gk v iv wr)
   case atStart=>exact ⟨0,A7,c7,l7,by first | rfl | simp,rfl,by omega,by omega,by simp,by omega,ho7',Fr.refl _ _⟩
   case round =>
    obtain ⟨k,A8,c8,l8,rfl,rfl,rfl,hk,hl8,hb8,ho8,hf8⟩:=hrel
    have HL8:=Lib.hid hl8
    clear hl8
    have hn64':ov.length ≤ 64:=by rw [HRN.out];exact hn64
    by_cases hlt:k < ov.length
    ·have i1:(k:Int) < (ov.length:Int):=by omega
     have i0:(0:Int) ≤ (k:Int):=by omega
     obtain ⟨g,off,rfl,hg⟩:=hsl.adC (by omega)
     have e1:codS.rd wr g (off + k * 2) = some ov[k]:=(hsl.fr0 hf8).rd k hlt
     have hx:okSt ov[k]:=hall _ (List.getElem_mem hlt)
     have ht:(ov.take (k + 1)).flatMap stB = (ov.take k).flatMap stB ++ stB ov[k]:=by rw [List.take_succ_eq_append_getElem hlt,List.flatMap_append];simp
     generalize ov[k] = x at e1 hx ht
     have HT:=Lib.hid ht
     have fA:Fr noB wr (wr.alloc (codS.o x)):=(Fr.refl noB wr).alloc _
     have n1:codS.rd (wr.alloc (codS.o x)) wr.heap.size 0 = some x:=Cod.rd_new' wr x
     have ax:=stB_len hx
     have b8:l8.length ≤ 140737488354000:=by omega
     have HLT:=Lib.hid hlt
     clear ht hlt
     go_wp2_with (go_at_call 129;refine (sput_any _ A8 c8 l8.length l8 rfl ((Sl.own ho8).fr0 fA) b8 x hx).mono ?_;rintro e w9 ⟨A9,c9,rfl,ho9,hf9⟩;obtain ⟨l9,hl9⟩:∃ z:List UInt8,z = l8 ++ stB x:=⟨_,rfl⟩;rw [← hl9] at ho9 ⊢;have HL9:=Lib.hid hl9;clear hl9)
     have hlt:=HLT.out
     go_roundg (ov.length - (k + 1))
     case measure=>omega
     case rel =>
      exact ⟨k + 1,A9,c9,l9,rfl,by simp,rfl,by omega,by rw [HL9.out,HL8.out,HT.out,List.append_assoc],by rw [HL9.out,List.length_append];omega,own_base ho9 (Nat.le_trans (g7.step0 hf8).size fA.size),(hf8.step0 fA).step0 hf9⟩
    ·have hkn:k = ov.length:=by omega
     subst hkn
     have i1:¬ (ov.length:Int) < (ov.length:Int):=by omega
     have hfin:l8 = l ++ opB o:=by rw [HL8.out,List.take_length,HFIN.out]
     rw [hfin] at ho8 ⊢
     clear hfin hb8
     go_wp2_with fail
     go_ret
     exact ⟨A8,c8,by first | rfl | simp,ho8,g7.step0 hf8⟩
 ·have hg':goodOp o = false:=by simpa using hg
  have hop:opB o = []:=by unfold opB;rw [if_neg hg]
  have HE:=Lib.hid (show l ++ opB o = l by rw [hop,List.append_nil])
  have HG:=Lib.hid hg'
  clear hg hg' hop hlen
  go_wp2_with (first
   | (go_at_call 105;refine (sgood_any _ r o h).mono ?_;rintro e w1 ⟨rfl,f1⟩;rw [HG.out])
   | (go_at_call 128;refine (clone_z _ A c l.length l rfl (hs.fr0 f1) (by omega)).mono ?_;rintro e w2 ⟨A2,c2,rfl,ho2,f2⟩))
  go_ret
  rw [HE.out]
  exact ⟨A2,c2,rfl,own_base ho2 (f0.step0 f1).size,(f0.step0 f1).step0 f2⟩
end Go.Proofs.YtjpieiccpbcabaaGreat
namespace Go.Proofs.YtjpieiccpbcabaaGreat
open Go.RowKit
theorem own_lit1 (w:World) (b:UInt8) (k:Int) (hk:(b.toNat:Int) = k):(w.alloc (.cells #[.int .u8 k] 5)).ownsRow w.heap.size 5 1 (.slice (some ⟨w.heap.size,0,none⟩) 1 1) 1 (bv [b]):=by
 subst hk
 have:=World.ownsRow_lit (base:=w.heap.size) (e:=5) (size:=1) w #[.int .u8 (b.toNat:Int)] 1 (Nat.le_refl _) (by simp [maxLen]) rfl
 simpa [bv,u8v] using this
theorem own_cap {w:World} {base:Nat} {e:TypeId} {size n c:Nat} {A:Option Addr} {xs:List Value} (h:w.ownsRow base e size (.slice A n c) n xs):n ≤ c:=by
 obtain ⟨A',c',ev,hcc,_⟩:=own_form h
 injection ev with e1 e2 e3
 omega
def PtTo (w:World) (o:Option (List UInt8)) (err:Int) (e:Ending) (w':World):Prop :=
 ∃ A c,e = .returned (.tuple #[.slice A (o.getD []).length c,.int .i64 (if o.isSome then 0 else err)]) ∧ w'.ownsRow w.heap.size 5 1 (.slice A (o.getD []).length c) (o.getD []).length (bv (o.getD [])) ∧ Fr noB w w' ∧ (o.getD []).length ≤ c
end Go.Proofs.YtjpieiccpbcabaaGreat
namespace Go.Proofs.YtjpieiccpbcabaaGreat
open Go.RowKit
def WrR (w W7:World) (l0:List UInt8) (n m:Nat) (f:Nat → List UInt8) (gk:Nat) (v iv:Value) (wr:World):Prop :=
 ∃ (k:Nat) (A:Option Addr) (c:Nat) (l:List UInt8),v = .slice A l.length c ∧ iv = .int .i64 (k:Int) ∧ gk = n - k ∧ k ≤ n ∧ l = l0 ++ f k ∧ l.length ≤ l0.length + k * m ∧ wr.ownsRow w.heap.size 5 1 (.slice A l.length c) l.length (bv l) ∧ Fr noB W7 wr
theorem flat_succ {α:Type} (f:α → List UInt8) (l:List α) (k:Nat) (h:k < l.length):(l.take (k + 1)).flatMap f = (l.take k).flatMap f ++ f l[k]:=by
 rw [List.take_succ_eq_append_getElem h,List.flatMap_append];simp
def putCh (c:Chg):Option (List UInt8):=if rightCh c = true then some (chB c) else none
set_option maxRecDepth 100000 in
set_option maxHeartbeats 4000000 in
theorem putChange_any (w:World) (r:CgW) (rs:List OpW) (c:Chg) (h:CgIn w r rs c):Calls Tryz.prog 64 #[.agg (codC.A r)] w (PtTo w (putCh c) 1):=by
 have f0:Fr noB w (w.alloc (.cells (codC.A r) 35)):=(Fr.refl noB w).alloc _
 obtain ⟨q1,q2,q3,q4,q5,q6,q7⟩:=cgAt (Cod.rd_new w 35 r)
 have hP:w.heap.size < (w.alloc (.cells (codC.A r) 35)).heap.size:=by simp
 replace h:=h.fr f0
 have hRc:=Lib.hid (rightChange_any _ r rs c h)
 by_cases hr:rightCh c = true
 ·have E1:=Lib.hid (show putCh c = some (chB c) by unfold putCh;rw [if_pos hr])
  have HR:=Lib.hid hr
  have hr2:=hr
  simp only [rightCh,Bool.and_eq_true,decide_eq_true_eq,List.all_eq_true] at hr2
  obtain ⟨⟨⟨⟨⟨⟨⟨⟨⟨z1,z2⟩,z3⟩,z4⟩,z5⟩,z6⟩,z7⟩,z8⟩,z9⟩,z10⟩:=hr2
  obtain ⟨h1,h2,h3,h4,h5,h6,h7,h8,h9,h10,h11,h12⟩:=h
  obtain ⟨t1,t2,t3,t4⟩:=okSt_of z4
  simp only at t1 t2 t3 t4
  rw [h1] at t1 t2
  rw [h2] at t3 t4
  rw [h4] at z5
  have hms:=z5
  have hpn:r.pn ≤ 2:=by omega
  have hon:r.on ≤ 64:=by have:=h9.len;omega
  have hgo:∀ o ∈ c.Ops,goodOp o = true:=fun o ho=>(z9 o ho).1.1
  have hcB:chB c = [3] ++ numB r.pn ++ c.Parents.flatMap (·.1) ++ (numB r.Time.toNat ++ numB r.R.toNat ++ numB r.on) ++ c.Ops.flatMap opB ++ (r.Tree.1 ++ txB r.Msg):=by
   unfold chB
   rw [h1,h2,h3,h4,← h9.len,h7,h5]
   simp [List.append_assoc]
  have HCB:=Lib.hid hcB
  have p1:((r.Time.toNat:Nat):Int) = r.Time:=by omega
  have p2:r.Time.toNat ≤ 4611686018427387904:=by omega
  have p3:((r.R.toNat:Nat):Int) = r.R:=by omega
  have p4:r.R.toNat ≤ 4611686018427387904:=by omega
  have P1:=Lib.hid p1
  have P3:=Lib.hid p3
  generalize c.Parents = ps at h5 h6 hcB HCB
  have H5:=Lib.hid h5
  have H7:=Lib.hid h7
  clear hr z1 z2 z3 z4 z5 z6 z7 z8 z9 z10 h1 h2 h3 h4 hcB p1 p3 h10 h5 h7
  go_enter Tryz.func64,Tryz.ntmps64
  go_upto_region 1 with fail
  generalize w.alloc (.cells (codC.A r) 35) = W0 at f0 q1 q2 q3 q4 q5 q6 q7 hP hRc h6 h8 h9 ⊢
  generalize w.heap.size = P at q1 q2 q3 q4 q5 q6 q7 hP ⊢
  go_upto_region 3 with (go_at_call 92;refine hRc.out.mono ?_;rintro e w1 ⟨rfl,f1⟩;rw [HR.out])
  obtain ⟨L1,L2,L3,L4,L5,L6⟩:=f1.same
  replace q1:=(L1 P 0 hP).trans q1
  replace q2:=(L1 P 1 hP).trans q2
  replace q3:=(L1 P 2 hP).trans q3
  replace q4:=(L1 P 3 hP).trans q4
  replace q5:=(L3 P 4 hP).trans q5
  replace q6:=(L1 P 36 hP).trans q6
  clear L1 L2 L3 L4 L5 L6 q7 hP
  replace f0:=f0.step0 f1
  replace h6:=h6.fr0 f1
  replace h8:=h8.fr0 f1
  replace h9:=h9.fr f1
  have fn:Fr noB w1 (w1.alloc (.cells #[.int .u8 3] 5)):=(Fr.refl noB w1).alloc _
  have ho1:=own_lit1 w1 3 3 rfl
  have k1:=cell_fr0 q1 fn
  generalize r.PA = PA at q1 h6 k1 ⊢
  rw [← H5.out] at q1 k1
  go_upto_region 4 with (go_at_call 93;refine (enum_z _ _ 1 [3] 1 rfl (Sl.own ho1) (by simp) (ps.length:Int) ps.length rfl (by have:=H5.out;omega)).mono ?_;rintro e w2 ⟨A2,c2,rfl,ho2,hf2⟩;obtain ⟨l2,hl2⟩:∃ x:List UInt8,x = [3] ++ numB ps.length:=⟨_,rfl⟩;rw [← hl2] at ho2 ⊢;have HL2:=Lib.hid hl2;clear hl2)
  have b2:l2.length ≤ 10:=by have:=numB_length ps.length (by have:=H5.out;omega);rw [HL2.out,List.length_append];simp;omega
  have g2:=(f0.step0 fn).step0 hf2
  have u2:=fn.step0 hf2
  have ho2':=own_base ho2 (f0.step0 fn).size
  replace q1:=cell_fr0 q1 u2
  replace q2:=cell_fr0 q2 u2
  replace q3:=cell_fr0 q3 u2
  replace q4:=cell_fr0 q4 u2
  replace q5:=rdI_fr q5 (rdI_lt q5) u2 (by simp [noB])
  replace q6:=cell_fr0 q6 u2
  replace h6:=h6.fr0 u2
  replace h8:=h8.fr0 u2
  replace h9:=h9.fr u2
  clear k1 ho1 hf2 ho2 fn u2
  go_wp2_with fail
  go_loopg [4,20] ps.length (fun gk v iv wr=>WrR w w2 l2 ps.length 32 (fun k=>(ps.take k).flatMap (·.1)) gk v iv wr)
  case atStart=>exact ⟨0,A2,c2,l2,rfl,rfl,by omega,by omega,by simp,by omega,ho2',Fr.refl _ _⟩
  case round =>
   obtain ⟨k,A8,c8,l8,rfl,rfl,rfl,hk,hl8,hb8,ho8,hf8⟩:=hrel
   have HL8:=Lib.hid hl8
   clear hl8
   have hn2:ps.length ≤ 2:=by rw [H5.out];exact hpn
   by_cases hlt:k < ps.length
   ·have i1:(k:Int) < (ps.length:Int):=by omega
    have i0:(0:Int) ≤ (k:Int):=by omega
    obtain ⟨g,off,rfl⟩:=h6.ad (by omega)
    have e1:rdI wr g (off + k * 32) = some ps[k]:=(h6.fr0 hf8).id k hlt
    have ht:=flat_succ (fun x:ID=>x.1) ps k hlt
    generalize ps[k] = x at e1 ht
    have HT:=Lib.hid ht
    obtain ⟨pf1,pf2,pf3⟩:=putB_fr (bxI_new wr zID) x
    have fA:Fr noB wr (putB (wr.alloc (ido zID)) wr.heap.size x):=((Fr.refl noB wr).alloc (ido zID)).step1 pf1 (Nat.le_refl _)
    have n1:rdI (putB (wr.alloc (ido zID)) wr.heap.size x) wr.heap.size 0 = some x:=bxI_rd pf3
    clear pf1 pf2 pf3
    have b8:l8.length ≤ 140737488355000:=by omega
    have HLT:=Lib.hid hlt
    have xl:=x.2
    have XL:=Lib.hid xl
    clear ht hlt xl
    go_wp2_with (go_at_call 94;refine (eid_any _ A8 c8 l8.length l8 rfl ((Sl.own ho8).fr0 fA) b8 x).mono ?_;rintro e w9 ⟨A9,c9,rfl,ho9,hf9⟩;obtain ⟨l9,hl9⟩:∃ z:List UInt8,z = l8 ++ x.1:=⟨_,rfl⟩;rw [← hl9] at ho9 ⊢;have HL9:=Lib.hid hl9;clear hl9)
    have hlt:=HLT.out
    go_roundg (ps.length - (k + 1))
    case measure=>omega
    case rel =>
     exact ⟨k + 1,A9,c9,l9,rfl,by simp,rfl,by omega,by rw [HL9.out,HL8.out];simp only;rw [HT.out,List.append_assoc],by rw [HL9.out,List.length_append,XL.out];omega,own_base ho9 (Nat.le_trans (g2.step0 hf8).size fA.size),(hf8.step0 fA).step0 hf9⟩
   ·have hkn:k = ps.length:=by omega
    subst hkn
    have i1:¬ (ps.length:Int) < (ps.length:Int):=by omega
    have HL8':=Lib.hid (show l8 = l2 ++ ps.flatMap (·.1) by have:=HL8.out;simp only [List.take_length] at this;exact this)
    have b8:l8.length ≤ 80:=by omega
    have g8:=g2.step0 hf8
    have fd:=(Fr.refl noB wr).drew
    have keep:∀ w' w'':World,Fr noB w' w'' → (w'.cell? ⟨P,1,none⟩ = some (.int .i64 r.Time) ∧ w'.cell? ⟨P,2,none⟩ = some (.int .i64 r.R) ∧ w'.cell? ⟨P,3,none⟩ = some (.slice r.OA r.on r.oc)) → (w''.cell? ⟨P,1,none⟩ = some (.int .i64 r.Time) ∧ w''.cell? ⟨P,2,none⟩ = some (.int .i64 r.R) ∧ w''.cell? ⟨P,3,none⟩ = some (.slice r.OA r.on r.oc)) :=
     fun w' w'' f h=>⟨cell_fr0 h.1 f,cell_fr0 h.2.1 f,cell_fr0 h.2.2 f⟩
    have a1:=numB_length r.Time.toNat p2
    have a2:=numB_length r.R.toNat p4
    have a3:=numB_length r.on (by omega)
    clear hb8 hn2 hlt HL8 hk
    go_upto_region 9 with fail
    refine wp_region_M 11 12 [⟨268435456,16,0⟩,⟨536870912,2,0⟩,⟨1073741824,536870912,2⟩,⟨2147483648,1342177280,5⟩,⟨4294967296,2,0⟩,⟨8589934592,4294967296,16⟩,⟨17179869184,10737418240,40⟩,⟨34359738368,2,0⟩,⟨68719476736,34359738368,128⟩,⟨137438953472,68719476736,256⟩,⟨274877906944,154618822656,576⟩,⟨16,274877906944,2047⟩] [(true,0),(true,1),(true,2),(true,4),(true,5),(true,7),(true,8),(true,9),(false,3),(false,6),(false,10)] (fun w'=>w'.cell? ⟨P,1,none⟩ = some (.int .i64 r.Time) ∧ w'.cell? ⟨P,2,none⟩ = some (.int .i64 r.R) ∧ w'.cell? ⟨P,3,none⟩ = some (.slice r.OA r.on r.oc)) (by kernel_rfl) rfl (by kernel_rfl) (by kernel_rfl) (by kernel_rfl) ⟨cell_fr0 q2 (hf8.step0 fd),cell_fr0 q3 (hf8.step0 fd),cell_fr0 q4 (hf8.step0 fd)⟩ (fun hA hF=>?_)
    iterate 8
     refine wpAnyS_take (v:=?_) hA rfl (fun _ _ _ h=>h) (Or.inl ⟨by rfl,?_⟩) hF (fun hA=>?_)
     rotate_left
     ·intro wS hSw;(try dsimp only at hSw);obtain ⟨s1,s2,s3⟩:=hSw;first | (apply Eq.trans;apply ex_ld_id;exact rfl;exact rfl;assumption;with_reducible rfl) | (apply Eq.trans;apply ex_ldS_at;exact rfl;exact rfl;assumption;with_reducible rfl) | (go_simp;try with_reducible rfl)
     try simp only [sA1,sA2,sA3,Act.put,sA4,sA5,sA6]
    refine wpAnyS_one hA rfl (fun K' hK=>?_)
    go_simp
    go_at_call 93
    refine (enum_z wr.drew A8 c8 l8 l8.length rfl ((Sl.own ho8).fr0 fd) (by omega) r.Time r.Time.toNat P1.out p2).mono ?_
    rintro e w10 ⟨A10,c10,rfl,ho10,hf10⟩
    obtain ⟨l10,hl10⟩:∃ x:List UInt8,x = l8 ++ numB r.Time.toNat:=⟨_,rfl⟩
    rw [← hl10] at ho10 ⊢
    have b10:l10.length ≤ 90:=by rw [hl10,List.length_append];omega
    have HL10:=Lib.hid hl10
    clear hl10
    have g10:=(g8.step0 fd).step0 hf10
    replace hF:=keep _ _ hf10 hF
    refine hK.out _ _ hF (fun hA=>?_)
    clear hK K'
    as_aux_lemma =>
    refine wpAnyS_one hA rfl (fun K' hK=>?_)
    go_simp
    go_at_call 93
    refine (enum_z w10 A10 c10 l10 l10.length rfl (Sl.own ho10) (by omega) r.R r.R.toNat P3.out p4).mono ?_
    rintro e w11 ⟨A11,c11,rfl,ho11,hf11⟩
    obtain ⟨l11,hl11⟩:∃ x:List UInt8,x = l10 ++ numB r.R.toNat:=⟨_,rfl⟩
    rw [← hl11] at ho11 ⊢
    have b11:l11.length ≤ 100:=by rw [hl11,List.length_append];omega
    have HL11:=Lib.hid hl11
    clear hl11
    have g11:=(g10).step0 hf11
    replace hF:=keep _ _ hf11 hF
    refine hK.out _ _ hF (fun hA=>?_)
    clear hK K'
    as_aux_lemma =>
    refine wpAnyS_one hA rfl (fun K' hK=>?_)
    go_simp
    go_at_call 93
    refine (enum_z w11 A11 c11 l11 l11.length rfl (Sl.own ho11) (by omega) (r.on:Int) r.on rfl (by omega)).mono ?_
    rintro e w12 ⟨A12,c12,rfl,ho12,hf12⟩
    obtain ⟨l12,hl12⟩:∃ x:List UInt8,x = l11 ++ numB r.on:=⟨_,rfl⟩
    rw [← hl12] at ho12 ⊢
    have b12:l12.length ≤ 110:=by rw [hl12,List.length_append];omega
    have HL12:=Lib.hid hl12
    clear hl12
    have g12:=(g11).step0 hf12
    replace hF:=keep _ _ hf12 hF
    refine hK.out _ _ hF (fun hA=>?_)
    clear hK K'
    as_aux_lemma =>
    refine wpAnyS_end hA rfl ?_
    simp only [List.drop_succ_cons,List.drop_zero]
    clear hF keep
    have hwf:Fr noB w2 w12:=(((hf8.step0 fd).step0 hf10).step0 hf11).step0 hf12
    have HL12':=Lib.hid (show l12 = l8 ++ (numB r.Time.toNat ++ numB r.R.toNat ++ numB r.on) by rw [HL12.out,HL11.out,HL10.out];simp [List.append_assoc])
    have ho12':=own_base ho12 g11.size
    replace q4:=cell_fr0 q4 hwf
    replace q5:=rdI_fr q5 (rdI_lt q5) hwf (by simp [noB])
    replace q6:=cell_fr0 q6 hwf
    replace h8:=h8.fr0 hwf
    replace h9:=h9.fr hwf
    rw [← H7.out] at q4
    clear q1 q2 q3 h6
    have q4o:=q4
    generalize r.OA = OA at q4o h8 ⊢
    clear q4
    go_wp2_with fail
    go_loopg [4,42] rs.length (fun gk v iv wr=>WrR w w12 l12 rs.length 4000 (fun k=>(c.Ops.take k).flatMap opB) gk v iv wr)
    case atStart=>exact ⟨0,A12,c12,l12,by first | rfl | simp,rfl,by omega,by omega,by simp,by omega,ho12',Fr.refl _ _⟩
    case round =>
     obtain ⟨k,A20,c20,l20,rfl,rfl,rfl,hk,hl20,hb20,ho20,hf20⟩:=hrel
     have HL20:=Lib.hid hl20
     clear hl20
     have hn64:rs.length ≤ 64:=by rw [H7.out];exact hon
     by_cases hlt:k < rs.length
     ·have i1:(k:Int) < (rs.length:Int):=by omega
      have i0:(0:Int) ≤ (k:Int):=by omega
      have hlt2:k < c.Ops.length:=by rw [← h9.len];exact hlt
      obtain ⟨g,off,rfl,hgg⟩:=h8.adC (by omega)
      have e1:codO.rd wr g (off + k * 41) = some rs[k]:=(h8.fr0 hf20).rd k hlt
      have hop:OpIn wr rs[k] c.Ops[k]:=(h9.at_ k hlt hlt2).fr hf20
      have hgk:=opB_len (hgo _ (List.getElem_mem hlt2))
      have ht:=flat_succ opB c.Ops k hlt2
      generalize rs[k] = x at e1 hop
      generalize c.Ops[k] = o at hop hgk ht
      have HT:=Lib.hid ht
      have fA:Fr noB wr (wr.alloc (codO.o x)):=(Fr.refl noB wr).alloc _
      have n1:codO.rd (wr.alloc (codO.o x)) wr.heap.size 0 = some x:=Cod.rd_new' wr x
      have b8:l20.length ≤ 50000000000:=by omega
      have HLT:=Lib.hid hlt
      clear ht hlt hlt2
      go_wp2_with (go_at_call 95;refine (put_any _ A20 c20 l20.length l20 rfl ((Sl.own ho20).fr0 fA) b8 x o (hop.fr fA)).mono ?_;rintro e w9 ⟨A9,c9,rfl,ho9,hf9⟩;obtain ⟨l9,hl9⟩:∃ z:List UInt8,z = l20 ++ opB o:=⟨_,rfl⟩;rw [← hl9] at ho9 ⊢;have HL9:=Lib.hid hl9;clear hl9)
      have hlt:=HLT.out
      go_roundg (rs.length - (k + 1))
      case measure=>omega
      case rel =>
       exact ⟨k + 1,A9,c9,l9,rfl,by simp,rfl,by omega,by rw [HL9.out,HL20.out];simp only;rw [HT.out,List.append_assoc],by rw [HL9.out,List.length_append];omega,own_base ho9 (Nat.le_trans (g12.step0 hf20).size fA.size),(hf20.step0 fA).step0 hf9⟩
     ·have hkn:k = rs.length:=by omega
      subst hkn
      have i1:¬ (rs.length:Int) < (rs.length:Int):=by omega
      have HL20':=Lib.hid (show l20 = l12 ++ c.Ops.flatMap opB by have:=HL20.out;simp only [h9.len,List.take_length] at this;exact this)
      have b20:l20.length ≤ 300000:=by omega
      have g20:=g12.step0 hf20
      have fd2:=(Fr.refl noB wr).drew
      have keep:∀ w' w'':World,Fr noB w' w'' → (rdI w' P 4 = some r.Tree ∧ w'.cell? ⟨P,36,none⟩ = some (.string (str r.Msg))) → (rdI w'' P 4 = some r.Tree ∧ w''.cell? ⟨P,36,none⟩ = some (.string (str r.Msg))) :=
       fun w' w'' f h=>⟨rdI_fr h.1 (rdI_lt h.1) f (by simp [noB]),cell_fr0 h.2 f⟩
      clear hb20 hn64 hlt HL20 hk
      go_upto_region 15 with fail
      refine wp_region_M 7 9 [⟨1125899906842624,16,0⟩,⟨2251799813685248,2,0⟩,⟨4503599627370496,2251799813685248,2⟩,⟨9007199254740992,5629499534213120,5⟩,⟨18014398509481984,2,0⟩,⟨36028797018963968,18014398509481984,16⟩,⟨72057594037927936,45035996273704960,40⟩,⟨4,72057594037927936,127⟩,⟨8,0,255⟩] [(true,0),(true,1),(true,2),(true,4),(true,5),(false,3),(false,6)] (fun w'=>rdI w' P 4 = some r.Tree ∧ w'.cell? ⟨P,36,none⟩ = some (.string (str r.Msg))) (by kernel_rfl) rfl (by kernel_rfl) (by kernel_rfl) (by kernel_rfl) ⟨rdI_fr q5 (rdI_lt q5) (hf20.step0 fd2) (by simp [noB]),cell_fr0 q6 (hf20.step0 fd2)⟩ (fun hA hF=>?_)
      iterate 5
       refine wpAnyS_take (v:=?_) hA rfl (fun _ _ _ h=>h) (Or.inl ⟨by rfl,?_⟩) hF (fun hA=>?_)
       rotate_left
       ·intro wS hSw;(try dsimp only at hSw);obtain ⟨s1,s2⟩:=hSw;first | (apply Eq.trans;apply ex_ld_id;exact rfl;exact rfl;assumption;with_reducible rfl) | (apply Eq.trans;apply ex_ldS_at;exact rfl;exact rfl;assumption;with_reducible rfl) | (go_simp;try with_reducible rfl)
       try simp only [sA1,sA2,sA3,Act.put,sA4,sA5,sA6]
      refine wpAnyS_one hA rfl (fun K' hK=>?_)
      go_simp
      go_at_call 94
      refine (eid_any wr.drew A20 c20 l20.length l20 rfl ((Sl.own ho20).fr0 fd2) (by omega) r.Tree).mono ?_
      rintro e w21 ⟨A21,c21,rfl,ho21,hf21⟩
      obtain ⟨l21,hl21⟩:∃ x:List UInt8,x = l20 ++ r.Tree.1:=⟨_,rfl⟩
      rw [← hl21] at ho21 ⊢
      have b21:l21.length ≤ 300032:=by rw [hl21,List.length_append,r.Tree.2];omega
      have HL21:=Lib.hid hl21
      clear hl21
      have g21:=(g20.step0 fd2).step0 hf21
      replace hF:=keep _ _ hf21 hF
      refine hK.out _ _ hF (fun hA=>?_)
      clear hK K'
      as_aux_lemma =>
      refine wpAnyS_one hA rfl (fun K' hK=>?_)
      go_simp
      go_at_call 96
      refine (etext_any w21 A21 c21 l21.length l21 rfl (Sl.own ho21) (by omega) r.Msg (by omega)).mono ?_
      rintro e w22 ⟨A22,c22,rfl,ho22,hf22⟩
      have HE:=Lib.hid (show l21 ++ txB r.Msg = chB c by rw [HL21.out,HL20'.out,HL12'.out,HL8'.out,HL2.out,HCB.out,H5.out];simp [List.append_assoc])
      rw [HE.out] at ho22 ⊢
      have g22:=g21.step0 hf22
      replace hF:=keep _ _ hf22 hF
      refine hK.out _ _ hF (fun hA=>?_)
      clear hK K'
      as_aux_lemma =>
      refine wpAnyS_end hA rfl ?_
      simp only [List.drop_succ_cons,List.drop_zero]
      clear hF keep
      have ho22':=own_base ho22 g21.size
      have hcc:=own_cap ho22
      go_wp2_with fail
      refine bodyPost_ret (results_tmp2 rfl _ _ _) rfl ?_
      unfold PtTo
      rw [E1.out]
      exact ⟨A22,c22,by first | rfl | simp,ho22',g22,hcc⟩
 ·have hr':rightCh c = false:=by simpa using hr
  have E1:=Lib.hid (show putCh c = none by unfold putCh;rw [if_neg hr])
  have HR:=Lib.hid hr'
  clear hr hr' q1 q2 q3 q4 q5 q6 h
  go_enter Tryz.func64,Tryz.ntmps64
  go_upto_region 1 with fail
  generalize w.alloc (.cells (codC.A r) 35) = W0 at f0 q7 hP hRc ⊢
  go_wp2_with (go_at_call 92;refine hRc.out.mono ?_;rintro e w1 ⟨rfl,f1⟩;rw [HR.out])
  refine bodyPost_ret (results_tmp2 rfl _ _ _) rfl ?_
  unfold PtTo
  rw [E1.out]
  exact ⟨none,0,rfl,World.ownsRow_nil _ _ _ _,f0.step0 f1,Nat.le_refl _⟩
end Go.Proofs.YtjpieiccpbcabaaGreat
namespace Go.Proofs.YtjpieiccpbcabaaGreat
open Go.RowKit
theorem Fr.own {w0 w w':World} {A:Option Addr} {n c:Nat} {xs:List Value} (f:Fr noB w0 w) (h:w.ownsRow w0.heap.size 5 1 (.slice A n c) n xs) (hg:w.grownBy w' (A.map (·.block))):Fr noB w0 w' :=
 f.step (Fr.ofGrown (M:=fun b=>A.map (·.block) = some b) hg (fun g hg=>hg)) (fun b hb=>.inl (own_lt h b hb).1)
end Go.Proofs.YtjpieiccpbcabaaGreat
