/- Contracts: the reference's RightLabel, rightItem, RightDir. Contract: the reference's RightChange. -/
import Derived.Test.YthehiobacjjakaaGreatDoorR3bKp
set_option linter.unusedVariables false
set_option linter.unusedSimpArgs false
namespace Go.Proofs.YthehiobacjjakaaGreatDoor
open Go.RowKit
def LpR {α:Type} (W:World) (p:α → Bool) (cf:α → α → Int) (l:List α) (gk:Nat) (iv:Value) (wr:World):Prop:=∃ k:Nat,iv = .int .i64 (k:Int) ∧ gk = l.length - k ∧ k ≤ l.length ∧ Fr noB W wr ∧ (l.take k).all p = true ∧ riseB cf (l.take k) = true
theorem cmpS_pos {a b:St} (h:0 < cmpS a b):cmpS a b = 1:=by
 rcases cmpS_cases a b with h1 | h1 | h1 <;> omega
theorem ne_1 {z:Int} (hz:z = -1 ∨ z = 0 ∨ z = 1) (h:¬ 0 < z):(z == 1) = false ∧ (z != 1) = true:=by
 constructor
 ·rw [beq_eq_false_iff_ne];omega
 ·rw [bne_iff_ne];omega
theorem hdS {w:World} {b o:Nat} {x:Hd} (h:codH.rd w b o = some x):codS.rd w b o = some x.At:=by
 have:=Cod.rd_part (C':=codS) h 0 (y:=x.At) (fun j v hv=>by
  match j with
  | 0=>simpa [codS,csS,codH,csH] using hv
  | 1=>simpa [codS,csS,codH,csH] using hv
  | j + 2=>simp [codS,csS] at hv)
 simpa using this
theorem itS {w:World} {b o:Nat} {x:ItW} (h:codT.rd w b o = some x):codS.rd w b o = some x.Node:=by
 have:=Cod.rd_part (C':=codS) h 0 (y:=x.Node) (fun j v hv=>by
  match j with
  | 0=>simpa [codS,csS,codT,csT] using hv
  | 1=>simpa [codS,csS,codT,csT] using hv
  | j + 2=>simp [codS,csS] at hv)
 simpa using this
set_option maxRecDepth 100000 in
set_option maxHeartbeats 4000000 in
theorem r4item_any (w:World) (r:ItW) (x:It) (h:ItIn w r x):Calls Tryz.prog 78 #[.agg (codT.A r)] w (Gives w (.bool (rightIt x))):=by
 obtain ⟨he,hlen,hs,hbd,hnm⟩:=h
 generalize x.Heads = hd at he hlen hs hbd
 subst he
 have f0:Fr noB w (w.alloc (.cells (codT.A r) 95)):=(Fr.refl noB w).alloc _
 obtain ⟨q1,q2,q3,q4,q5,q6⟩:=itAt (Cod.rd_new w 95 r)
 have hP:w.heap.size < (w.alloc (.cells (codT.A r) 95)).heap.size:=by simp
 generalize hpp:(fun h:Hd=>rightS h.At && decide (0 < cmpS h.At r.Node) && decide (h.Data ≠ zID)) = pp
 have hM:rightIt (itOf r hd) = (rightS r.Node && rightS r.At && decide (0 ≤ cmpS r.At r.Node) && nameOk r.Name && decide (r.n ≤ 1000) && (hd.all pp) && riseB (fun a b:Hd=>cmpS a.At b.At) hd):=by subst hpp;unfold rightIt itOf;rw [hlen]
 have HM:=Lib.hid hM
 have HL:=Lib.hid hlen
 have HPP:=Lib.hid hpp
 replace hs:=hs.fr0 f0
 clear hM hlen hpp q4 q6
 go_enter Tryz.func78,Tryz.ntmps78
 go_upto_region 1 with fail
 generalize w.alloc (.cells (codT.A r) 95) = W0 at f0 hs q1 q2 q3 q5 hP ⊢
 generalize w.heap.size = P at q1 q2 q3 q5 hP ⊢
 have f1:Fr noB W0 W0:=Fr.refl _ _
 obtain ⟨L1,L2,L3,L4,L5,L6⟩:=f1.same
 go_wp2_with (first
  | (go_at_call 65;refine (r3right_any _ _).mono ?_;rintro e w2 ⟨rfl,f2⟩;replace f1:=f1.step0 f2;clear L1 L2 L3 L4 L5 L6;obtain ⟨L1,L2,L3,L4,L5,L6⟩:=f1.same)
  | (go_at_call 50;refine (r3cmp_any _ _ _).mono ?_;rintro e w2 ⟨rfl,f2⟩;replace f1:=f1.step0 f2;clear L1 L2 L3 L4 L5 L6;obtain ⟨L1,L2,L3,L4,L5,L6⟩:=f1.same)
  | (go_at_call 64;refine (r3name_any _ _ hnm).mono ?_;rintro e w2 ⟨rfl,f2⟩;replace f1:=f1.step0 f2;clear L1 L2 L3 L4 L5 L6;obtain ⟨L1,L2,L3,L4,L5,L6⟩:=f1.same))
 all_goals first
  | (go_ret
     refine ⟨?_,f0.step0 f1⟩
     rw [HM.out]
     clear L1 L2 L3 L4 L5 L6 q1 q2 q3 q5 hP
     first
     | (simp_all;done)
     | (simp_all;omega))
  | skip
 have HM4:Hid (rightIt (itOf r hd) = ((hd.all pp) && riseB (fun a b:Hd=>cmpS a.At b.At) hd)):=Lib.hid (by
  rw [HM.out]
  clear L1 L2 L3 L4 L5 L6 q1 q2 q3 q5
  have h6:r.n ≤ 1000:=by omega
  have h7:0 ≤ cmpS r.At r.Node:=by omega
  simp_all)
 replace hs:=hs.fr0 f1
 have r1:=(f1.same.st _ 0 hP).trans q1
 have r9:=(f1.same.cell _ 37 hP).trans q5
 replace hP:=Nat.lt_of_lt_of_le hP f1.size
 replace f0:=f0.step0 f1
 rw [← HL.out] at r9
 clear HM L1 L2 L3 L4 L5 L6 q1 q2 q3 q5 f1
 generalize r.A = A at hs r9
 go_loopg [3] hd.length (fun gk iv wr=>LpR w2 pp (fun a b:Hd=>cmpS a.At b.At) hd gk iv wr)
 case atStart=>exact ⟨0,rfl,by omega,by omega,Fr.refl _ _,by simp,rise_zero _ _⟩
 case round =>
  obtain ⟨k,rfl,rfl,hk,hf,ha,hri⟩:=hrel
  have HA:=Lib.hid ha
  have HRI:=Lib.hid hri
  clear ha hri
  have e2:=(hf.same.st _ 0 hP).trans r1
  have e9:=(hf.same.cell _ 37 hP).trans r9
  have hPw:=Nat.lt_of_lt_of_le hP hf.size
  by_cases hlt:k < hd.length
  ·have i1:(k:Int) < (hd.length:Int):=by omega
   have i0:(0:Int) ≤ (k:Int):=by omega
   obtain ⟨g,off,rfl,hg⟩:=hs.adC (by omega)
   have e1:codH.rd wr g (off + k * 34) = some hd[k]:=(hs.fr0 hf).rd k hlt
   have hpx:pp hd[k] = (rightS (hd[k]).At && decide (0 < cmpS (hd[k]).At r.Node) && decide ((hd[k]).Data ≠ zID)):=by rw [← HPP.out]
   have bad1:pp hd[k] = false → rightIt (itOf r hd) = false:=fun h=>by
    have h1:=all_take_succ pp hd k hlt
    rw [h,Bool.and_false] at h1
    rw [HM4.out,all_take_false h1];rfl
   have good1:pp hd[k] = true → (hd.take (k + 1)).all pp = true:=fun h=>by rw [all_take_succ pp hd k hlt,HA.out,h];rfl
   have pv:∀ (h:0 < k),∃ p:Hd,(∀ W,Fr noB w2 W → codS.rd W g (off + (k - 1) * 34) = some p.At) ∧ (¬ cmpS p.At (hd[k]).At < 0 → rightIt (itOf r hd) = false) ∧ (cmpS p.At (hd[k]).At < 0 → riseB (fun a b:Hd=>cmpS a.At b.At) (hd.take (k + 1)) = true):=fun h =>
    ⟨hd[k - 1]'(by omega),fun W f=>hdS ((hs.fr0 f).rd (k - 1) (by omega)),fun h1=>by rw [HM4.out,rise_false (fun a b:Hd=>cmpS a.At b.At) hd k hlt h h1,Bool.and_false],fun h1=>rise_take_succ (fun a b:Hd=>cmpS a.At b.At) hd k hlt HRI.out (fun _=>h1)⟩
   have pz:k = 0 → riseB (fun a b:Hd=>cmpS a.At b.At) (hd.take (k + 1)) = true:=fun h=>rise_take_succ (fun a b:Hd=>cmpS a.At b.At) hd k hlt HRI.out (fun h'=>absurd h' (by omega))
   generalize hd[k] = x at e1 hpx bad1 good1 pv
   have fA:Fr noB wr (wr.alloc (codH.o x)):=(Fr.refl noB wr).alloc _
   have n1:=hdAt (Cod.rd_new' (C:=codH) wr x)
   have n2:wr.heap.size < (wr.alloc (codH.o x)).heap.size:=by simp
   have m1:=n1.At
   have m2:=n1.data
   have BAD1:=Lib.hid bad1
   have PV:=Lib.hid pv
   have GOOD1:=Lib.hid good1
   have PZ:=Lib.hid pz
   have HPX:=Lib.hid hpx
   clear bad1 good1 hpx pv pz n1
   go_upto_region 7 with fail
   have s2:=(fA.same.st _ 0 hPw).trans e2
   have s9:=(fA.same.cell _ 37 hPw).trans e9
   have hPW:=Nat.lt_of_lt_of_le hPw fA.size
   replace hf:=hf.step0 fA
   have hgw:=Nat.lt_of_lt_of_le hg hf.size
   clear e1 e2 e9 hPw fA
   generalize wr.alloc (codH.o x) = W at hf m1 m2 n2 s2 s9 hPW hgw ⊢
   generalize wr.heap.size = N at m1 m2 n2 ⊢
   by_cases hr:rightS x.At = true
   ·have C1:∀ w,Calls Tryz.prog 65 #[.agg (codS.A x.At)] w (Gives w (.bool true)):=fun w=>Gives.val (r3right_any w x.At) (by rw [hr])
    by_cases hc:0 < cmpS x.At r.Node
    ·have C2:∀ w,Calls Tryz.prog 50 #[.agg (codS.A x.At),.agg (codS.A r.Node)] w (Gives w (.int .i64 1)):=fun w=>Gives.val (r3cmp_any w x.At r.Node) (by rw [cmpS_pos hc])
     by_cases hz:x.Data = zID
     ·have C3:∀ w,Calls Tryz.prog 110 #[encI x.Data] w (Gives w (.bool true)):=fun w=>Gives.val (r4zero_any w x.Data) (by simp [hz])
      have E0:=BAD1.out (by rw [HPX.out];simp [hz])
      clear hr hc hz
      have E:=Lib.hid E0
      clear E0
      refine wp_region_fr (by kernel_rfl) (by kernel_rfl) ?_
      iterate 2
       refine wpQ_take (v:=?_) (by rfl) (fun wS hS=>?_) ?_
       rotate_left
       ·obtain ⟨L1,L2,L3,L4,L5,L6⟩:=Fr.same hS;go_simp;try with_reducible rfl
       try simp only [sA1,sA2,sA3,Act.put,sA4,sA5,sA6]
      refine wpQ_call (by rfl) (fun wS hS=>⟨_,_,?qh164,Calls.fr hS (C1 _)⟩) ?qk164
      case qh164=>obtain ⟨L1,L2,L3,L4,L5,L6⟩:=Fr.same hS;go_simp;try with_reducible rfl
      try simp only [sA1,sA2,sA3,Act.put,sA4,sA5,sA6]
      iterate 6
       refine wpQ_take (v:=?_) (by rfl) (fun wS hS=>?_) ?_
       rotate_left
       ·obtain ⟨L1,L2,L3,L4,L5,L6⟩:=Fr.same hS;go_simp;try with_reducible rfl
       try simp only [sA1,sA2,sA3,Act.put,sA4,sA5,sA6]
      refine wpQ_call (by rfl) (fun wS hS=>⟨_,_,?qh172,Calls.fr hS (C2 _)⟩) ?qk172
      case qh172=>obtain ⟨L1,L2,L3,L4,L5,L6⟩:=Fr.same hS;go_simp;try with_reducible rfl
      try simp only [sA1,sA2,sA3,Act.put,sA4,sA5,sA6]
      iterate 5
       refine wpQ_take (v:=?_) (by rfl) (fun wS hS=>?_) ?_
       rotate_left
       ·obtain ⟨L1,L2,L3,L4,L5,L6⟩:=Fr.same hS;go_simp;try with_reducible rfl
       try simp only [sA1,sA2,sA3,Act.put,sA4,sA5,sA6]
      refine wpQ_call (by rfl) (fun wS hS=>⟨_,_,?qh180,Calls.fr hS (C3 _)⟩) ?qk180
      case qh180=>obtain ⟨L1,L2,L3,L4,L5,L6⟩:=Fr.same hS;go_simp;try with_reducible rfl
      try simp only [sA1,sA2,sA3,Act.put,sA4,sA5,sA6]
      iterate 2
       refine wpQ_take (v:=?_) (by rfl) (fun wS hS=>?_) ?_
       rotate_left
       ·obtain ⟨L1,L2,L3,L4,L5,L6⟩:=Fr.same hS;go_simp;try with_reducible rfl
       try simp only [sA1,sA2,sA3,Act.put,sA4,sA5,sA6]
      iterate 15
       refine wpQ_off (by rfl) ?_
       try simp only [sA1,sA2,sA3,Act.put,sA4,sA5,sA6]
      refine wpQ_take (v:=?_) (by rfl) (fun wS hS=>?_) ?_
      rotate_left
      ·obtain ⟨L1,L2,L3,L4,L5,L6⟩:=Fr.same hS;go_simp;try with_reducible rfl
      try simp only [sA1,sA2,sA3,Act.put,sA4,sA5,sA6]
      refine wpQ_nil ?_
      intro w1 f1
      go_wp2_with fail
      go_ret
      exact ⟨by rw [E.out];rfl,(f0.step0 hf).step0 f1⟩
     ·have C3:∀ w,Calls Tryz.prog 110 #[encI x.Data] w (Gives w (.bool false)):=fun w=>Gives.val (r4zero_any w x.Data) (by simp [hz])
      have GP:pp x = true:=by rw [HPX.out,hr];simp [hc,hz]
      clear hr hc hz
      by_cases hk0:k = 0
      ·have G1:=Lib.hid (GOOD1.out GP)
       have G2:=Lib.hid (PZ.out hk0)
       have j0:¬ (0:Int) < (k:Int):=by omega
       have j9:¬ 0 < k:=by omega
       clear GP hk0
       refine wp_region_fr (by kernel_rfl) (by kernel_rfl) ?_
       iterate 2
        refine wpQ_take (v:=?_) (by rfl) (fun wS hS=>?_) ?_
        rotate_left
        ·obtain ⟨L1,L2,L3,L4,L5,L6⟩:=Fr.same hS;go_simp;try with_reducible rfl
        try simp only [sA1,sA2,sA3,Act.put,sA4,sA5,sA6]
       refine wpQ_call (by rfl) (fun wS hS=>⟨_,_,?qh215,Calls.fr hS (C1 _)⟩) ?qk215
       case qh215=>obtain ⟨L1,L2,L3,L4,L5,L6⟩:=Fr.same hS;go_simp;try with_reducible rfl
       try simp only [sA1,sA2,sA3,Act.put,sA4,sA5,sA6]
       iterate 6
        refine wpQ_take (v:=?_) (by rfl) (fun wS hS=>?_) ?_
        rotate_left
        ·obtain ⟨L1,L2,L3,L4,L5,L6⟩:=Fr.same hS;go_simp;try with_reducible rfl
        try simp only [sA1,sA2,sA3,Act.put,sA4,sA5,sA6]
       refine wpQ_call (by rfl) (fun wS hS=>⟨_,_,?qh223,Calls.fr hS (C2 _)⟩) ?qk223
       case qh223=>obtain ⟨L1,L2,L3,L4,L5,L6⟩:=Fr.same hS;go_simp;try with_reducible rfl
       try simp only [sA1,sA2,sA3,Act.put,sA4,sA5,sA6]
       iterate 5
        refine wpQ_take (v:=?_) (by rfl) (fun wS hS=>?_) ?_
        rotate_left
        ·obtain ⟨L1,L2,L3,L4,L5,L6⟩:=Fr.same hS;go_simp;try with_reducible rfl
        try simp only [sA1,sA2,sA3,Act.put,sA4,sA5,sA6]
       refine wpQ_call (by rfl) (fun wS hS=>⟨_,_,?qh231,Calls.fr hS (C3 _)⟩) ?qk231
       case qh231=>obtain ⟨L1,L2,L3,L4,L5,L6⟩:=Fr.same hS;go_simp;try with_reducible rfl
       try simp only [sA1,sA2,sA3,Act.put,sA4,sA5,sA6]
       iterate 5
        refine wpQ_take (v:=?_) (by rfl) (fun wS hS=>?_) ?_
        rotate_left
        ·obtain ⟨L1,L2,L3,L4,L5,L6⟩:=Fr.same hS;go_simp;try with_reducible rfl
        try simp only [sA1,sA2,sA3,Act.put,sA4,sA5,sA6]
       iterate 11
        refine wpQ_off (by rfl) ?_
        try simp only [sA1,sA2,sA3,Act.put,sA4,sA5,sA6]
       iterate 2
        refine wpQ_take (v:=?_) (by rfl) (fun wS hS=>?_) ?_
        rotate_left
        ·obtain ⟨L1,L2,L3,L4,L5,L6⟩:=Fr.same hS;go_simp;try with_reducible rfl
        try simp only [sA1,sA2,sA3,Act.put,sA4,sA5,sA6]
       refine wpQ_nil ?_
       intro w1 f1
       go_wp2_with fail
       go_roundg (hd.length - (k + 1))
       case measure=>omega
       case rel=>exact ⟨k + 1,by simp,rfl,by omega,hf.step0 f1,G1.out,G2.out⟩
      ·have hk1:0 < k:=by omega
       have j0:(0:Int) < (k:Int):=by omega
       have m5:IntKind.i64.wrap ((k:Int) - 1) = ((k - 1:Nat):Int):=by rw [IntKind.wrap_i64];omega
       obtain ⟨p,e3',B2,G2⟩:=PV.out hk1
       have e3:=e3' W hf
       have GG2:=Lib.hid G2
       have BB2:=Lib.hid B2
       have q2:k - 1 < hd.length:=by omega
       clear G2 B2 e3'
       generalize hqe:k - 1 = q at m5 e3 q2
       have j1:(0:Int) ≤ (q:Int):=by omega
       have j2:(q:Int) < (hd.length:Int):=by omega
       by_cases hpc:cmpS p.At x.At < 0
       ·have C4:∀ w,Calls Tryz.prog 50 #[.agg (codS.A p.At),.agg (codS.A x.At)] w (Gives w (.int .i64 (-1))):=fun w=>Gives.val (r3cmp_any w p.At x.At) (by rw [cmpS_neg hpc])
        have G1:=Lib.hid (GOOD1.out GP)
        have G2:=Lib.hid (GG2.out hpc)
        clear GP hqe hk0 hpc
        refine wp_region_fr (by kernel_rfl) (by kernel_rfl) ?_
        iterate 2
         refine wpQ_take (v:=?_) (by rfl) (fun wS hS=>?_) ?_
         rotate_left
         ·obtain ⟨L1,L2,L3,L4,L5,L6⟩:=Fr.same hS;go_simp;try with_reducible rfl
         try simp only [sA1,sA2,sA3,Act.put,sA4,sA5,sA6]
        refine wpQ_call (by rfl) (fun wS hS=>⟨_,_,?qh276,Calls.fr hS (C1 _)⟩) ?qk276
        case qh276=>obtain ⟨L1,L2,L3,L4,L5,L6⟩:=Fr.same hS;go_simp;try with_reducible rfl
        try simp only [sA1,sA2,sA3,Act.put,sA4,sA5,sA6]
        iterate 6
         refine wpQ_take (v:=?_) (by rfl) (fun wS hS=>?_) ?_
         rotate_left
         ·obtain ⟨L1,L2,L3,L4,L5,L6⟩:=Fr.same hS;go_simp;try with_reducible rfl
         try simp only [sA1,sA2,sA3,Act.put,sA4,sA5,sA6]
        refine wpQ_call (by rfl) (fun wS hS=>⟨_,_,?qh284,Calls.fr hS (C2 _)⟩) ?qk284
        case qh284=>obtain ⟨L1,L2,L3,L4,L5,L6⟩:=Fr.same hS;go_simp;try with_reducible rfl
        try simp only [sA1,sA2,sA3,Act.put,sA4,sA5,sA6]
        iterate 5
         refine wpQ_take (v:=?_) (by rfl) (fun wS hS=>?_) ?_
         rotate_left
         ·obtain ⟨L1,L2,L3,L4,L5,L6⟩:=Fr.same hS;go_simp;try with_reducible rfl
         try simp only [sA1,sA2,sA3,Act.put,sA4,sA5,sA6]
        refine wpQ_call (by rfl) (fun wS hS=>⟨_,_,?qh292,Calls.fr hS (C3 _)⟩) ?qk292
        case qh292=>obtain ⟨L1,L2,L3,L4,L5,L6⟩:=Fr.same hS;go_simp;try with_reducible rfl
        try simp only [sA1,sA2,sA3,Act.put,sA4,sA5,sA6]
        iterate 14
         refine wpQ_take (v:=?_) (by rfl) (fun wS hS=>?_) ?_
         rotate_left
         ·obtain ⟨L1,L2,L3,L4,L5,L6⟩:=Fr.same hS;go_simp;try with_reducible rfl
         try simp only [sA1,sA2,sA3,Act.put,sA4,sA5,sA6]
        refine wpQ_call (by rfl) (fun wS hS=>⟨_,_,?qh300,Calls.fr hS (C4 _)⟩) ?qk300
        case qh300=>obtain ⟨L1,L2,L3,L4,L5,L6⟩:=Fr.same hS;go_simp;try with_reducible rfl
        try simp only [sA1,sA2,sA3,Act.put,sA4,sA5,sA6]
        iterate 3
         refine wpQ_take (v:=?_) (by rfl) (fun wS hS=>?_) ?_
         rotate_left
         ·obtain ⟨L1,L2,L3,L4,L5,L6⟩:=Fr.same hS;go_simp;try with_reducible rfl
         try simp only [sA1,sA2,sA3,Act.put,sA4,sA5,sA6]
        refine wpQ_nil ?_
        intro w1 f1
        go_wp2_with fail
        go_roundg (hd.length - (k + 1))
        case measure=>omega
        case rel=>exact ⟨k + 1,by simp,rfl,by omega,hf.step0 f1,G1.out,G2.out⟩
       ·have C4:∀ w,Calls Tryz.prog 50 #[.agg (codS.A p.At),.agg (codS.A x.At)] w (Gives w (.int .i64 (cmpS p.At x.At))):=fun w=>r3cmp_any w p.At x.At
        have E0:=BB2.out hpc
        obtain ⟨z1,z2⟩:=ne_m1 hpc
        generalize cmpS p.At x.At = z at C4 z1 z2
        clear GP hqe hk0 hpc
        have E:=Lib.hid E0
        clear E0
        refine wp_region_fr (by kernel_rfl) (by kernel_rfl) ?_
        iterate 2
         refine wpQ_take (v:=?_) (by rfl) (fun wS hS=>?_) ?_
         rotate_left
         ·obtain ⟨L1,L2,L3,L4,L5,L6⟩:=Fr.same hS;go_simp;try with_reducible rfl
         try simp only [sA1,sA2,sA3,Act.put,sA4,sA5,sA6]
        refine wpQ_call (by rfl) (fun wS hS=>⟨_,_,?qh327,Calls.fr hS (C1 _)⟩) ?qk327
        case qh327=>obtain ⟨L1,L2,L3,L4,L5,L6⟩:=Fr.same hS;go_simp;try with_reducible rfl
        try simp only [sA1,sA2,sA3,Act.put,sA4,sA5,sA6]
        iterate 6
         refine wpQ_take (v:=?_) (by rfl) (fun wS hS=>?_) ?_
         rotate_left
         ·obtain ⟨L1,L2,L3,L4,L5,L6⟩:=Fr.same hS;go_simp;try with_reducible rfl
         try simp only [sA1,sA2,sA3,Act.put,sA4,sA5,sA6]
        refine wpQ_call (by rfl) (fun wS hS=>⟨_,_,?qh335,Calls.fr hS (C2 _)⟩) ?qk335
        case qh335=>obtain ⟨L1,L2,L3,L4,L5,L6⟩:=Fr.same hS;go_simp;try with_reducible rfl
        try simp only [sA1,sA2,sA3,Act.put,sA4,sA5,sA6]
        iterate 5
         refine wpQ_take (v:=?_) (by rfl) (fun wS hS=>?_) ?_
         rotate_left
         ·obtain ⟨L1,L2,L3,L4,L5,L6⟩:=Fr.same hS;go_simp;try with_reducible rfl
         try simp only [sA1,sA2,sA3,Act.put,sA4,sA5,sA6]
        refine wpQ_call (by rfl) (fun wS hS=>⟨_,_,?qh343,Calls.fr hS (C3 _)⟩) ?qk343
        case qh343=>obtain ⟨L1,L2,L3,L4,L5,L6⟩:=Fr.same hS;go_simp;try with_reducible rfl
        try simp only [sA1,sA2,sA3,Act.put,sA4,sA5,sA6]
        iterate 14
         refine wpQ_take (v:=?_) (by rfl) (fun wS hS=>?_) ?_
         rotate_left
         ·obtain ⟨L1,L2,L3,L4,L5,L6⟩:=Fr.same hS;go_simp;try with_reducible rfl
         try simp only [sA1,sA2,sA3,Act.put,sA4,sA5,sA6]
        refine wpQ_call (by rfl) (fun wS hS=>⟨_,_,?qh351,Calls.fr hS (C4 _)⟩) ?qk351
        case qh351=>obtain ⟨L1,L2,L3,L4,L5,L6⟩:=Fr.same hS;go_simp;try with_reducible rfl
        try simp only [sA1,sA2,sA3,Act.put,sA4,sA5,sA6]
        iterate 3
         refine wpQ_take (v:=?_) (by rfl) (fun wS hS=>?_) ?_
         rotate_left
         ·obtain ⟨L1,L2,L3,L4,L5,L6⟩:=Fr.same hS;go_simp;try with_reducible rfl
         try simp only [sA1,sA2,sA3,Act.put,sA4,sA5,sA6]
        refine wpQ_nil ?_
        intro w1 f1
        go_wp2_with fail
        go_ret
        exact ⟨by rw [E.out];rfl,(f0.step0 hf).step0 f1⟩
    ·have C2:∀ w,Calls Tryz.prog 50 #[.agg (codS.A x.At),.agg (codS.A r.Node)] w (Gives w (.int .i64 (cmpS x.At r.Node))):=fun w=>r3cmp_any w x.At r.Node
     have E0:=BAD1.out (by rw [HPX.out];simp [hc])
     obtain ⟨z1,z2⟩:=ne_1 (cmpS_cases x.At r.Node) hc
     generalize cmpS x.At r.Node = z at C2 z1 z2
     clear hc hr
     have E:=Lib.hid E0
     clear E0
     refine wp_region_fr (by kernel_rfl) (by kernel_rfl) ?_
     iterate 2
      refine wpQ_take (v:=?_) (by rfl) (fun wS hS=>?_) ?_
      rotate_left
      ·obtain ⟨L1,L2,L3,L4,L5,L6⟩:=Fr.same hS;go_simp;try with_reducible rfl
      try simp only [sA1,sA2,sA3,Act.put,sA4,sA5,sA6]
     refine wpQ_call (by rfl) (fun wS hS=>⟨_,_,?qh377,Calls.fr hS (C1 _)⟩) ?qk377
     case qh377=>obtain ⟨L1,L2,L3,L4,L5,L6⟩:=Fr.same hS;go_simp;try with_reducible rfl
     try simp only [sA1,sA2,sA3,Act.put,sA4,sA5,sA6]
     iterate 6
      refine wpQ_take (v:=?_) (by rfl) (fun wS hS=>?_) ?_
      rotate_left
      ·obtain ⟨L1,L2,L3,L4,L5,L6⟩:=Fr.same hS;go_simp;try with_reducible rfl
      try simp only [sA1,sA2,sA3,Act.put,sA4,sA5,sA6]
     refine wpQ_call (by rfl) (fun wS hS=>⟨_,_,?qh385,Calls.fr hS (C2 _)⟩) ?qk385
     case qh385=>obtain ⟨L1,L2,L3,L4,L5,L6⟩:=Fr.same hS;go_simp;try with_reducible rfl
     try simp only [sA1,sA2,sA3,Act.put,sA4,sA5,sA6]
     iterate 3
      refine wpQ_take (v:=?_) (by rfl) (fun wS hS=>?_) ?_
      rotate_left
      ·obtain ⟨L1,L2,L3,L4,L5,L6⟩:=Fr.same hS;go_simp;try with_reducible rfl
      try simp only [sA1,sA2,sA3,Act.put,sA4,sA5,sA6]
     iterate 3
      refine wpQ_off (by rfl) ?_
      try simp only [sA1,sA2,sA3,Act.put,sA4,sA5,sA6]
     iterate 2
      refine wpQ_take (v:=?_) (by rfl) (fun wS hS=>?_) ?_
      rotate_left
      ·obtain ⟨L1,L2,L3,L4,L5,L6⟩:=Fr.same hS;go_simp;try with_reducible rfl
      try simp only [sA1,sA2,sA3,Act.put,sA4,sA5,sA6]
     iterate 15
      refine wpQ_off (by rfl) ?_
      try simp only [sA1,sA2,sA3,Act.put,sA4,sA5,sA6]
     refine wpQ_take (v:=?_) (by rfl) (fun wS hS=>?_) ?_
     rotate_left
     ·obtain ⟨L1,L2,L3,L4,L5,L6⟩:=Fr.same hS;go_simp;try with_reducible rfl
     try simp only [sA1,sA2,sA3,Act.put,sA4,sA5,sA6]
     refine wpQ_nil ?_
     intro w1 f1
     go_wp2_with fail
     go_ret
     exact ⟨by rw [E.out];rfl,(f0.step0 hf).step0 f1⟩
   ·have hr':rightS x.At = false:=by simpa using hr
    have C1:∀ w,Calls Tryz.prog 65 #[.agg (codS.A x.At)] w (Gives w (.bool false)):=fun w=>Gives.val (r3right_any w x.At) (by rw [hr'])
    have E0:=BAD1.out (by rw [HPX.out];simp [hr'])
    clear hr hr'
    have E:=Lib.hid E0
    clear E0
    refine wp_region_fr (by kernel_rfl) (by kernel_rfl) ?_
    iterate 2
     refine wpQ_take (v:=?_) (by rfl) (fun wS hS=>?_) ?_
     rotate_left
     ·obtain ⟨L1,L2,L3,L4,L5,L6⟩:=Fr.same hS;go_simp;try with_reducible rfl
     try simp only [sA1,sA2,sA3,Act.put,sA4,sA5,sA6]
    refine wpQ_call (by rfl) (fun wS hS=>⟨_,_,?qh425,Calls.fr hS (C1 _)⟩) ?qk425
    case qh425=>obtain ⟨L1,L2,L3,L4,L5,L6⟩:=Fr.same hS;go_simp;try with_reducible rfl
    try simp only [sA1,sA2,sA3,Act.put,sA4,sA5,sA6]
    iterate 2
     refine wpQ_take (v:=?_) (by rfl) (fun wS hS=>?_) ?_
     rotate_left
     ·obtain ⟨L1,L2,L3,L4,L5,L6⟩:=Fr.same hS;go_simp;try with_reducible rfl
     try simp only [sA1,sA2,sA3,Act.put,sA4,sA5,sA6]
    iterate 6
     refine wpQ_off (by rfl) ?_
     try simp only [sA1,sA2,sA3,Act.put,sA4,sA5,sA6]
    iterate 2
     refine wpQ_take (v:=?_) (by rfl) (fun wS hS=>?_) ?_
     rotate_left
     ·obtain ⟨L1,L2,L3,L4,L5,L6⟩:=Fr.same hS;go_simp;try with_reducible rfl
     try simp only [sA1,sA2,sA3,Act.put,sA4,sA5,sA6]
    iterate 3
     refine wpQ_off (by rfl) ?_
     try simp only [sA1,sA2,sA3,Act.put,sA4,sA5,sA6]
    iterate 2
     refine wpQ_take (v:=?_) (by rfl) (fun wS hS=>?_) ?_
     rotate_left
     ·obtain ⟨L1,L2,L3,L4,L5,L6⟩:=Fr.same hS;go_simp;try with_reducible rfl
     try simp only [sA1,sA2,sA3,Act.put,sA4,sA5,sA6]
    iterate 15
     refine wpQ_off (by rfl) ?_
     try simp only [sA1,sA2,sA3,Act.put,sA4,sA5,sA6]
    refine wpQ_take (v:=?_) (by rfl) (fun wS hS=>?_) ?_
    rotate_left
    ·obtain ⟨L1,L2,L3,L4,L5,L6⟩:=Fr.same hS;go_simp;try with_reducible rfl
    try simp only [sA1,sA2,sA3,Act.put,sA4,sA5,sA6]
    refine wpQ_nil ?_
    intro w1 f1
    go_wp2_with fail
    go_ret
    exact ⟨by rw [E.out];rfl,(f0.step0 hf).step0 f1⟩
  ·have hkl:k = hd.length:=by omega
   subst hkl
   have i1:¬ (hd.length:Int) < (hd.length:Int):=by omega
   have E:=Lib.hid (show rightIt (itOf r hd) = true by
    have h1:=HA.out
    have h2:=HRI.out
    rw [List.take_length] at h1 h2
    rw [HM4.out,h1,h2];rfl)
   clear hlt hk
   go_wp2_with fail
   go_ret
   exact ⟨by rw [E.out];rfl,f0.step0 hf⟩
set_option maxRecDepth 100000 in
set_option maxHeartbeats 4000000 in
theorem r4dir_any (w:World) (A:Option Addr) (c n:Nat) (rs:List ItW) (xs:List It) (hn:rs.length = n) (hs:Sl w A (codT.row rs)) (hb:rs.length ≤ 140737488355328) (h:ItsIn w rs xs) :
  Calls Tryz.prog 47 #[.slice A n c] w (Gives w (.bool (rightDr xs))):=by
 subst hn
 have hlx:=h.len
 have hM:rightDr xs = (decide (rs.length ≤ 1000) && xs.all rightIt && riseB (fun a b:It=>cmpS a.Node b.Node) xs):=by unfold rightDr;rw [hlx]
 have HM:=Lib.hid hM
 have HLX:=Lib.hid hlx
 clear hM hlx
 go_enter Tryz.func47,Tryz.ntmps47
 go_wp2_with fail
 go_loopg [3] rs.length (fun gk iv wr=>∃ k:Nat,iv = .int .i64 (k:Int) ∧ gk = rs.length - k ∧ k ≤ rs.length ∧ Fr noB w wr ∧ (xs.take k).all rightIt = true ∧ riseB (fun a b:It=>cmpS a.Node b.Node) (xs.take k) = true)
 case atStart=>exact ⟨0,rfl,by omega,by omega,Fr.refl _ _,by simp,rise_zero _ _⟩
 case round =>
  obtain ⟨k,rfl,rfl,hk,hf,ha,hri⟩:=hrel
  have HA:=Lib.hid ha
  have HRI:=Lib.hid hri
  clear ha hri
  by_cases hlt:k < rs.length
  ·have i1:(k:Int) < (rs.length:Int):=by omega
   have i0:(0:Int) ≤ (k:Int):=by omega
   obtain ⟨g,off,rfl,hg⟩:=hs.adC (by omega)
   have hgw:=Nat.lt_of_lt_of_le hg hf.size
   have hltx:k < xs.length:=by rw [← HLX.out];exact hlt
   have e1:codT.rd wr g (off + k * 38) = some rs[k]:=(hs.fr0 hf).rd k hlt
   have hin:=h.at_ k hlt hltx
   have hnd:(rs[k]).Node = (xs[k]).Node:=by rw [hin.eq];rfl
   have es:=itS e1
   rw [hnd] at es
   have bad1:rightIt xs[k] = false → rightDr xs = false:=fun h=>by
    have h1:=all_take_succ rightIt xs k hltx
    rw [h,Bool.and_false] at h1
    rw [HM.out,all_take_false h1,Bool.and_false];rfl
   have good1:rightIt xs[k] = true → (xs.take (k + 1)).all rightIt = true:=fun h=>by rw [all_take_succ rightIt xs k hltx,HA.out,h];rfl
   have pv:∀ (h:0 < k),∃ p:It,codS.rd wr g (off + (k - 1) * 38) = some p.Node ∧ (¬ cmpS p.Node (xs[k]).Node < 0 → rightDr xs = false) ∧ (cmpS p.Node (xs[k]).Node < 0 → riseB (fun a b:It=>cmpS a.Node b.Node) (xs.take (k + 1)) = true):=fun h0 =>
    ⟨xs[k - 1]'(by omega),by
     have this:codS.rd wr g (off + (k - 1) * 38) = some (rs[k - 1]'(by omega)).Node:=itS ((hs.fr0 hf).rd (k - 1) (by omega))
     rw [this,(h.at_ (k - 1) (by omega) (by omega)).eq];rfl,fun h1=>by rw [HM.out,rise_false (fun a b:It=>cmpS a.Node b.Node) xs k hltx h0 h1,Bool.and_false],fun h1=>rise_take_succ (fun a b:It=>cmpS a.Node b.Node) xs k hltx HRI.out (fun _=>h1)⟩
   have pz:k = 0 → riseB (fun a b:It=>cmpS a.Node b.Node) (xs.take (k + 1)) = true:=fun h=>rise_take_succ (fun a b:It=>cmpS a.Node b.Node) xs k hltx HRI.out (fun h'=>absurd h' (by omega))
   generalize rs[k] = q at e1 hin hnd
   generalize xs[k] = x at hin es hnd bad1 good1 pv
   have D0:=Lib.hid (fun W (f:Fr noB wr W)=>r4item_any W q x ((hin.fr hf).fr f))
   have BAD1:=Lib.hid bad1
   have PV:=Lib.hid pv
   have GOOD1:=Lib.hid good1
   have PZ:=Lib.hid pz
   clear bad1 good1 pv pz hin hnd hltx
   go_upto_region 4 with fail
   by_cases hr:rightIt x = true
   ·have D1:∀ W,Fr noB wr W → Calls Tryz.prog 78 #[.agg (codT.A q)] W (Gives W (.bool true)):=fun W f=>Gives.val (D0.out W f) (by rw [hr])
    by_cases hk0:k = 0
    ·have G1:=Lib.hid (GOOD1.out hr)
     have G2:=Lib.hid (PZ.out hk0)
     have j0:¬ (0:Int) < (k:Int):=by omega
     have j9:¬ 0 < k:=by omega
     clear hr hk0
     refine wp_region_fr (by kernel_rfl) (by kernel_rfl) ?_
     iterate 4
      refine wpQ_take (v:=?_) (by rfl) (fun wS hS=>?_) ?_
      rotate_left
      ·obtain ⟨L1,L2,L3,L4,L5,L6⟩:=Fr.same hS;go_simp;try with_reducible rfl
      try simp only [sA1,sA2,sA3,Act.put,sA4,sA5,sA6]
     refine wpQ_call (by rfl) (fun wS hS=>⟨_,_,?qh536,Calls.fr hS (D1 _ hS)⟩) ?qk536
     case qh536=>obtain ⟨L1,L2,L3,L4,L5,L6⟩:=Fr.same hS;go_simp;try with_reducible rfl
     try simp only [sA1,sA2,sA3,Act.put,sA4,sA5,sA6]
     iterate 5
      refine wpQ_take (v:=?_) (by rfl) (fun wS hS=>?_) ?_
      rotate_left
      ·obtain ⟨L1,L2,L3,L4,L5,L6⟩:=Fr.same hS;go_simp;try with_reducible rfl
      try simp only [sA1,sA2,sA3,Act.put,sA4,sA5,sA6]
     iterate 13
      refine wpQ_off (by rfl) ?_
      try simp only [sA1,sA2,sA3,Act.put,sA4,sA5,sA6]
     iterate 2
      refine wpQ_take (v:=?_) (by rfl) (fun wS hS=>?_) ?_
      rotate_left
      ·obtain ⟨L1,L2,L3,L4,L5,L6⟩:=Fr.same hS;go_simp;try with_reducible rfl
      try simp only [sA1,sA2,sA3,Act.put,sA4,sA5,sA6]
     refine wpQ_nil ?_
     intro w1 f1
     go_wp2_with fail
     go_roundg (rs.length - (k + 1))
     case measure=>omega
     case rel=>exact ⟨k + 1,by simp,rfl,by omega,hf.step0 f1,G1.out,G2.out⟩
    ·have hk1:0 < k:=by omega
     have j0:(0:Int) < (k:Int):=by omega
     have m5:IntKind.i64.wrap ((k:Int) - 1) = ((k - 1:Nat):Int):=by rw [IntKind.wrap_i64];omega
     obtain ⟨p,e3,B2,G2⟩:=PV.out hk1
     have GG2:=Lib.hid G2
     have BB2:=Lib.hid B2
     have q2:k - 1 < rs.length:=by omega
     clear G2 B2
     generalize hqe:k - 1 = q' at m5 e3 q2
     have j1:(0:Int) ≤ (q':Int):=by omega
     have j2:(q':Int) < (rs.length:Int):=by omega
     by_cases hpc:cmpS p.Node x.Node < 0
     ·have C2:∀ w,Calls Tryz.prog 50 #[.agg (codS.A p.Node),.agg (codS.A x.Node)] w (Gives w (.int .i64 (-1))):=fun w=>Gives.val (r3cmp_any w p.Node x.Node) (by rw [cmpS_neg hpc])
      have G1:=Lib.hid (GOOD1.out hr)
      have G2:=Lib.hid (GG2.out hpc)
      clear hr hqe hk0 hpc
      refine wp_region_fr (by kernel_rfl) (by kernel_rfl) ?_
      iterate 4
       refine wpQ_take (v:=?_) (by rfl) (fun wS hS=>?_) ?_
       rotate_left
       ·obtain ⟨L1,L2,L3,L4,L5,L6⟩:=Fr.same hS;go_simp;try with_reducible rfl
       try simp only [sA1,sA2,sA3,Act.put,sA4,sA5,sA6]
      refine wpQ_call (by rfl) (fun wS hS=>⟨_,_,?qh580,Calls.fr hS (D1 _ hS)⟩) ?qk580
      case qh580=>obtain ⟨L1,L2,L3,L4,L5,L6⟩:=Fr.same hS;go_simp;try with_reducible rfl
      try simp only [sA1,sA2,sA3,Act.put,sA4,sA5,sA6]
      iterate 16
       refine wpQ_take (v:=?_) (by rfl) (fun wS hS=>?_) ?_
       rotate_left
       ·obtain ⟨L1,L2,L3,L4,L5,L6⟩:=Fr.same hS;go_simp;try with_reducible rfl
       try simp only [sA1,sA2,sA3,Act.put,sA4,sA5,sA6]
      refine wpQ_call (by rfl) (fun wS hS=>⟨_,_,?qh588,Calls.fr hS (C2 _)⟩) ?qk588
      case qh588=>obtain ⟨L1,L2,L3,L4,L5,L6⟩:=Fr.same hS;go_simp;try with_reducible rfl
      try simp only [sA1,sA2,sA3,Act.put,sA4,sA5,sA6]
      iterate 3
       refine wpQ_take (v:=?_) (by rfl) (fun wS hS=>?_) ?_
       rotate_left
       ·obtain ⟨L1,L2,L3,L4,L5,L6⟩:=Fr.same hS;go_simp;try with_reducible rfl
       try simp only [sA1,sA2,sA3,Act.put,sA4,sA5,sA6]
      refine wpQ_nil ?_
      intro w1 f1
      go_wp2_with fail
      go_roundg (rs.length - (k + 1))
      case measure=>omega
      case rel=>exact ⟨k + 1,by simp,rfl,by omega,hf.step0 f1,G1.out,G2.out⟩
     ·have C2:∀ w,Calls Tryz.prog 50 #[.agg (codS.A p.Node),.agg (codS.A x.Node)] w (Gives w (.int .i64 (cmpS p.Node x.Node))):=fun w=>r3cmp_any w p.Node x.Node
      have E0:=BB2.out hpc
      obtain ⟨z1,z2⟩:=ne_m1 hpc
      generalize cmpS p.Node x.Node = z at C2 z1 z2
      clear hr hqe hk0 hpc
      have E:=Lib.hid E0
      clear E0
      refine wp_region_fr (by kernel_rfl) (by kernel_rfl) ?_
      iterate 4
       refine wpQ_take (v:=?_) (by rfl) (fun wS hS=>?_) ?_
       rotate_left
       ·obtain ⟨L1,L2,L3,L4,L5,L6⟩:=Fr.same hS;go_simp;try with_reducible rfl
       try simp only [sA1,sA2,sA3,Act.put,sA4,sA5,sA6]
      refine wpQ_call (by rfl) (fun wS hS=>⟨_,_,?qh615,Calls.fr hS (D1 _ hS)⟩) ?qk615
      case qh615=>obtain ⟨L1,L2,L3,L4,L5,L6⟩:=Fr.same hS;go_simp;try with_reducible rfl
      try simp only [sA1,sA2,sA3,Act.put,sA4,sA5,sA6]
      iterate 16
       refine wpQ_take (v:=?_) (by rfl) (fun wS hS=>?_) ?_
       rotate_left
       ·obtain ⟨L1,L2,L3,L4,L5,L6⟩:=Fr.same hS;go_simp;try with_reducible rfl
       try simp only [sA1,sA2,sA3,Act.put,sA4,sA5,sA6]
      refine wpQ_call (by rfl) (fun wS hS=>⟨_,_,?qh623,Calls.fr hS (C2 _)⟩) ?qk623
      case qh623=>obtain ⟨L1,L2,L3,L4,L5,L6⟩:=Fr.same hS;go_simp;try with_reducible rfl
      try simp only [sA1,sA2,sA3,Act.put,sA4,sA5,sA6]
      iterate 3
       refine wpQ_take (v:=?_) (by rfl) (fun wS hS=>?_) ?_
       rotate_left
       ·obtain ⟨L1,L2,L3,L4,L5,L6⟩:=Fr.same hS;go_simp;try with_reducible rfl
       try simp only [sA1,sA2,sA3,Act.put,sA4,sA5,sA6]
      refine wpQ_nil ?_
      intro w1 f1
      go_wp2_with fail
      go_ret
      exact ⟨by rw [E.out];rfl,hf.step0 f1⟩
   ·have hr':rightIt x = false:=by simpa using hr
    have D1:∀ W,Fr noB wr W → Calls Tryz.prog 78 #[.agg (codT.A q)] W (Gives W (.bool false)):=fun W f=>Gives.val (D0.out W f) (by rw [hr'])
    have E0:=BAD1.out hr'
    clear hr hr'
    have E:=Lib.hid E0
    clear E0
    refine wp_region_fr (by kernel_rfl) (by kernel_rfl) ?_
    iterate 4
     refine wpQ_take (v:=?_) (by rfl) (fun wS hS=>?_) ?_
     rotate_left
     ·obtain ⟨L1,L2,L3,L4,L5,L6⟩:=Fr.same hS;go_simp;try with_reducible rfl
     try simp only [sA1,sA2,sA3,Act.put,sA4,sA5,sA6]
    refine wpQ_call (by rfl) (fun wS hS=>⟨_,_,?qh648,Calls.fr hS (D1 _ hS)⟩) ?qk648
    case qh648=>obtain ⟨L1,L2,L3,L4,L5,L6⟩:=Fr.same hS;go_simp;try with_reducible rfl
    try simp only [sA1,sA2,sA3,Act.put,sA4,sA5,sA6]
    iterate 2
     refine wpQ_take (v:=?_) (by rfl) (fun wS hS=>?_) ?_
     rotate_left
     ·obtain ⟨L1,L2,L3,L4,L5,L6⟩:=Fr.same hS;go_simp;try with_reducible rfl
     try simp only [sA1,sA2,sA3,Act.put,sA4,sA5,sA6]
    iterate 17
     refine wpQ_off (by rfl) ?_
     try simp only [sA1,sA2,sA3,Act.put,sA4,sA5,sA6]
    refine wpQ_take (v:=?_) (by rfl) (fun wS hS=>?_) ?_
    rotate_left
    ·obtain ⟨L1,L2,L3,L4,L5,L6⟩:=Fr.same hS;go_simp;try with_reducible rfl
    try simp only [sA1,sA2,sA3,Act.put,sA4,sA5,sA6]
    refine wpQ_nil ?_
    intro w1 f1
    go_wp2_with fail
    go_ret
    exact ⟨by rw [E.out];rfl,hf.step0 f1⟩
  ·have hkl:k = rs.length:=by omega
   subst hkl
   have i1:¬ (rs.length:Int) < (rs.length:Int):=by omega
   have E:=Lib.hid (show rightDr xs = decide (rs.length ≤ 1000) by
    have h1:=HA.out
    have h2:=HRI.out
    rw [HLX.out,List.take_length] at h1 h2
    rw [HM.out,h1,h2];simp)
   clear hlt hk
   by_cases hl:rs.length ≤ 1000
   ·have i5:(rs.length:Int) ≤ 1000:=by omega
    have E2:=Lib.hid (show rightDr xs = true by rw [E.out];simp [hl])
    clear hl
    go_wp2_with fail
    go_ret
    exact ⟨by rw [E2.out];rfl,hf⟩
   ·have i5:¬ (rs.length:Int) ≤ 1000:=by omega
    have E2:=Lib.hid (show rightDr xs = false by rw [E.out];simp [hl])
    clear hl
    go_wp2_with fail
    go_ret
    exact ⟨by rw [E2.out];rfl,hf⟩
end Go.Proofs.YthehiobacjjakaaGreatDoor
namespace Go.Proofs.YthehiobacjjakaaGreatDoor
open Go.RowKit
end Go.Proofs.YthehiobacjjakaaGreatDoor
