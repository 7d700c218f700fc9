/- Contract: snap.Right: rows are a tree. (ex_ldS_at, Fr.sameR) -/
import Derived.Test.YtnkdnbjmhoegkaaGreatDifCKq
import Derived.Test.YtnkdnbjmhoegkaaGreatStabWKq
set_option linter.unusedVariables false
set_option linter.unusedSimpArgs false
namespace Go.Proofs.YtnkdnbjmhoegkaaGreat
open Go.RowKit
def TrTo (w:World) (xs:List RwP) (e:Ending) (w':World):Prop:=∃ b:Bool,e = .returned (.bool b) ∧ Fr noB w w' ∧ (b = true ↔ TreeOk xs)
def NtA (w:World) (rs:List RwW) (xs:List RwP) (t:Nat) (gk:Nat) (iv:Value) (wr:World):Prop :=
 ∃ k:Nat,iv = .int .i64 (k:Int) ∧ gk = rs.length - k ∧ k ≤ rs.length ∧ mpT wr t = some (parK (rs.take k)) ∧ (∀ i (h:i < xs.length),i < k → rightR xs[i] = true) ∧ PwT xs k ∧ Fr noB w wr
def NtB (w:World) (rs:List RwW) (xs:List RwP) (t t2:Nat) (gk:Nat) (iv:Value) (wr:World):Prop :=
 ∃ (k:Nat) (kv:List (St × Value)),iv = .int .i64 (k:Int) ∧ gk = rs.length - k ∧ k ≤ rs.length ∧ mpT wr t = some (parK rs) ∧ mpT wr t2 = some kv ∧ GoodK xs kv ∧ (∀ i (h:i < xs.length),i < k → ∃ m,reach xs m xs[i].Node = true) ∧ Fr noB w wr
def NtC (w:World) (rs:List RwW) (xs:List RwP) (t t2:Nat) (kv:List (St × Value)) (s:St) (gk:Nat) (wv pv:Value) (wr:World):Prop :=
 ∃ (P:Nat) (A:Option Addr) (c:Nat) (way:List St) (u:St),wv = .slice A way.length c ∧ pv = .pointer (some ⟨P,0,none⟩) ∧ gk = rs.length + 1 - way.length ∧ way.length ≤ rs.length + 1 ∧ codS.bxd wr P = some u ∧ w.heap.size ≤ P ∧ wfS u = true ∧ OwnC codS w wr A c way ∧
  (∀ a,A = some a → a.block ≠ P) ∧ (∀ x ∈ way,wfS x = true) ∧ WayT xs s u way ∧ mpT wr t = some (parK rs) ∧ mpT wr t2 = some kv ∧ Fr noB w wr
def NtD (w:World) (rs:List RwW) (xs:List RwP) (t t2:Nat) (A:Option Addr) (way:List St) (gk:Nat) (iv:Value) (wr:World):Prop :=
 ∃ (j:Nat) (kv:List (St × Value)),iv = .int .i64 (j:Int) ∧ gk = way.length - j ∧ j ≤ way.length ∧ mpT wr t = some (parK rs) ∧ mpT wr t2 = some kv ∧ GoodK xs kv ∧ Sl wr A (codS.row way) ∧ Fr noB w wr
theorem nd_par {w:World} {rs:List RwW} {xs:List RwP} (h:RwsIn w rs xs) {k:Nat} (hk:k < rs.length) (hp:PwT xs (k + 1)):∀ x ∈ rs.take k,x.Node ≠ rs[k].Node:=by
 intro x hx e
 obtain ⟨i,hi,rfl⟩:=List.getElem_of_mem hx
 rw [List.length_take] at hi
 rw [List.getElem_take] at e
 have hl:=h.len
 have h1:=(h.at_ i (by omega) (by omega)).node
 have h2:=(h.at_ k hk (by omega)).node
 exact hp.ne (by omega) (show i < k by omega) (by rw [h1,h2];exact e)
theorem not_right {xs:List RwP} {i:Nat} (h:i < xs.length) (hr:rightR xs[i] = false):¬ TreeOk xs:=fun ht=>by
 have:=ht.ok _ (List.getElem_mem h)
 rw [hr] at this;cases this
theorem not_rise {xs:List RwP} {q k:Nat} (hk:k < xs.length) (hq:q + 1 = k) (hz:¬ cmpS (xs[q]'(by omega)).Node xs[k].Node < 0):¬ TreeOk xs:=fun ht=>hz (ht.pw q k (by omega) hk hk)
theorem not_long {xs:List RwP} (h:¬ xs.length ≤ 5000):¬ TreeOk xs:=fun ht=>h ht.len
theorem TrTo.no {w w':World} {xs:List RwP} (h:¬ TreeOk xs) (f:Fr noB w w'):TrTo w xs (.returned (.bool false)) w':=⟨false,rfl,f,by simp [h]⟩
theorem mpT_put {w:World} {b:Nat} {y z:St} (hb:codS.bxd w b = some y) {r:Nat} {kv:List (St × Value)} (h:mpT w r = some kv):mpT (codS.put w b z) r = some kv:=by
 obtain ⟨p1,_,_⟩:=Cod.put_fr hb z
 have hh:=Cod.bxd_at hb
 rw [Cod.o_eq] at hh
 refine mpT_fr h p1 fun e=>?_
 have e':r = b:=e
 exact mpT_ne h hh e'.symm
theorem Fr.own' {w0 w w':World} {e:TypeId} {size n c:Nat} {A:Option Addr} {xs:List Value} (f:Fr noB w0 w) (h:w.ownsRow w0.heap.size e size (.slice A n c) n xs) (hg:w.grownBy w' (A.map (·.block))):Fr noB w0 w' :=
 f.step (Fr.ofGrown (M:=fun b=>A.map (·.block) = some b) hg (fun g hg=>hg)) (fun b hb=>.inl (own_lt h b hb).1)
set_option maxRecDepth 100000 in
set_option maxHeartbeats 4000000 in
theorem ntree_any (w:World) (A:Option Addr) (c n:Nat) (rs:List RwW) (xs:List RwP) (hn:rs.length = n) (hs:Sl w A (codR.row rs)) (hb:rs.length ≤ 140737488355328) (h:RwsIn w rs xs) (hbd:∀ x ∈ xs,x.Heads.length ≤ 2932031007402) :
  Calls Tryz.prog 13 #[.slice A n c] w (TrTo w xs):=by
 subst hn
 have hlen:=Lib.hid h.len
 by_cases hl5:rs.length ≤ 5000
 ·have n5:¬ (5000:Int) < (rs.length:Int):=by omega
  have f0:Fr noB w (w.alloc (.map #[] 0)):=(Fr.refl noB w).alloc _
  have m0:=mpT_new w
  go_enter Tryz.func13,Tryz.ntmps13
  go_wp2_with fail
  generalize w.alloc (.map #[] 0) = W0 at f0 m0 ⊢
  obtain ⟨t,ht⟩:∃ t,t = w.heap.size:=⟨_,rfl⟩
  rw [← ht] at m0 ⊢
  have HT:=Lib.hid ht
  clear ht
  go_loopg [21] rs.length (fun gk iv wr=>NtA w rs xs t gk iv wr)
  case atStart=>exact ⟨0,rfl,by omega,by omega,m0,fun i h1 h2=>by omega,PwT.zero xs,f0⟩
  case round =>
   clear m0 f0
   obtain ⟨k,rfl,rfl,hk,hm,hok,hpw,hf⟩:=hrel
   have HOK:=Lib.hid hok
   have HPW:=Lib.hid hpw
   clear hok hpw
   by_cases hlt:k < rs.length
   ·have hlt2:k < xs.length:=by rw [← hlen.out];exact hlt
    have i1:(k:Int) < (rs.length:Int):=by omega
    have i0:(0:Int) ≤ (k:Int):=by omega
    obtain ⟨g,off,rfl,hg⟩:=hs.adC (by omega)
    have e1:codR.rd wr g (off + k * 8) = some rs[k]:=(hs.fr0 hf).rd k hlt
    have hin:RwIn wr rs[k] xs[k]:=(h.at_ k hlt hlt2).fr hf
    have hbx:=hbd _ (List.getElem_mem hlt2)
    have fa:Fr noB wr (wr.alloc (codR.o rs[k])):=(Fr.refl noB wr).alloc _
    have q:=rwAt (Cod.rd_new' (C:=codR) wr rs[k])
    have HW:=Lib.hid (h.wf (List.getElem_mem hlt))
    have D1:∀ w',Fr noB (wr.alloc (codR.o rs[k])) w' → Calls Tryz.prog 31 #[.agg (codR.A rs[k])] w' (Gives w' (.bool (rightR xs[k]))):=fun w' f=>nrow_any w' rs[k] xs[k] ((hin.fr fa).fr f) hbx
    have hgs:g < (wr.alloc (codR.o rs[k])).heap.size:=by
     have:=(hs.fr0 hf).rd k hlt
     have:=Cod.rd_lt this
     simp;omega
    have hNs:wr.heap.size < (wr.alloc (codR.o rs[k])).heap.size:=by simp
    have hm':=mpT_fr0 hm fa
    have hOK:rightR xs[k] = true → ∀ i (h:i < xs.length),i < k + 1 → rightR xs[i] = true:=fun hr i h1 h2=>by
     by_cases e:i = k
     ·subst e;exact hr
     ·exact HOK.out i h1 (by omega)
    have HOK':=Lib.hid hOK
    have HNR:=Lib.hid (fun hr:rightR xs[k] = false=>not_right hlt2 hr)
    have HND:=Lib.hid hin.node
    have HPUT:=Lib.hid (fun hp:PwT xs (k + 1)=>(par_put (nd_par h hlt hp)).trans (by rw [← List.take_succ_eq_append_getElem hlt]:parK (rs.take k ++ [rs[k]]) = parK (rs.take (k + 1))))
    have hprev:∀ q (hq:q + 1 = k),codS.rd (wr.alloc (codR.o rs[k])) g (off + q * 8) = some (xs[q]'(by omega)).Node:=fun q hq=>by
     have h1:codR.rd (wr.alloc (codR.o rs[k])) g (off + q * 8) = some (rs[q]'(by omega)):=((hs.fr0 hf).fr0 fa).rd q (by omega)
     rw [(h.at_ q (by omega) (by omega)).node]
     exact (rwAtO h1).node
    have HPV:=Lib.hid hprev
    have HST:=Lib.hid (fun hc=>HPW.out.step hlt2 hc)
    have HNT:=Lib.hid (fun q (hq:q + 1 = k) (hz:¬ cmpS (xs[q]'(by omega)).Node xs[k].Node < 0)=>not_rise hlt2 hq hz)
    clear hOK hprev hin hbx hm
    obtain ⟨q1,q2,q3,q4,q5,q6⟩:=q
    clear q3 q4 q5
    obtain ⟨r,hr⟩:∃ r,r = rs[k]:=⟨_,rfl⟩
    rw [← hr] at e1 fa q1 q2 q6 HW D1 hgs hNs hm' HND HPUT HPV
    have HRr:=Lib.hid hr
    clear hr
    go_upto_region 7 with fail
    generalize hW1:wr.alloc (codR.o r) = W1 at fa q1 q2 q6 D1 hgs hNs hm' HPV ⊢
    obtain ⟨N,hN⟩:∃ x,x = wr.heap.size:=⟨_,rfl⟩
    rw [← hN] at q1 q2 q6 hNs ⊢
    clear hN hW1
    obtain ⟨b,hbr⟩:∃ b,b = rightR xs[k]:=⟨_,rfl⟩
    rw [← hbr] at D1
    have HBR:=Lib.hid hbr
    clear hbr
    cases b with
    | false =>
     refine wp_region_fr (by kernel_rfl) (by kernel_rfl) ?_
     refine wpQ_take (v:=?_) (by rfl) (fun wS hS=>?_) ?_
     rotate_left
     ·obtain ⟨L1,L2,L3,L4,L5,L6⟩:=Fr.same hS;have L7:=Fr.sameR hS;go_simp;try with_reducible rfl
     try simp only [sA1,sA2,sA3,Act.put,sA4,sA5,sA6]
     refine wpQ_call (by rfl) (fun wS hS=>⟨_,_,?qh123,Calls.fr hS (D1 _ hS)⟩) ?qk123
     case qh123=>obtain ⟨L1,L2,L3,L4,L5,L6⟩:=Fr.same hS;go_simp;try with_reducible rfl
     try simp only [sA1,sA2,sA3,Act.put,sA4,sA5,sA6]
     iterate 2
      refine wpQ_take (v:=?_) (by rfl) (fun wS hS=>?_) ?_
      rotate_left
      ·obtain ⟨L1,L2,L3,L4,L5,L6⟩:=Fr.same hS;have L7:=Fr.sameR hS;go_simp;try with_reducible rfl
      try simp only [sA1,sA2,sA3,Act.put,sA4,sA5,sA6]
     iterate 14
      refine wpQ_off (by rfl) ?_
      try simp only [sA1,sA2,sA3,Act.put,sA4,sA5,sA6]
     refine wpQ_take (v:=?_) (by rfl) (fun wS hS=>?_) ?_
     rotate_left
     ·obtain ⟨L1,L2,L3,L4,L5,L6⟩:=Fr.same hS;have L7:=Fr.sameR hS;go_simp;try with_reducible rfl
     try simp only [sA1,sA2,sA3,Act.put,sA4,sA5,sA6]
     refine wpQ_nil ?_
     intro w1 f1
     go_wp2_with fail
     go_ret
     exact TrTo.no (HNR.out HBR.out.symm) ((hf.step0 fa).step0 f1)
    | true =>
     have HO2:=Lib.hid (HOK'.out HBR.out.symm)
     clear HNR HOK'
     by_cases hk0:k = 0
     ·have HP:=Lib.hid (HST.out (.inl hk0))
      have n0:¬ (0:Int) < (k:Int):=by omega
      clear HST HNT HPV
      refine wp_region_fr (by kernel_rfl) (by kernel_rfl) ?_
      refine wpQ_take (v:=?_) (by rfl) (fun wS hS=>?_) ?_
      rotate_left
      ·obtain ⟨L1,L2,L3,L4,L5,L6⟩:=Fr.same hS;have L7:=Fr.sameR hS;go_simp;try with_reducible rfl
      try simp only [sA1,sA2,sA3,Act.put,sA4,sA5,sA6]
      refine wpQ_call (by rfl) (fun wS hS=>⟨_,_,?qh155,Calls.fr hS (D1 _ hS)⟩) ?qk155
      case qh155=>obtain ⟨L1,L2,L3,L4,L5,L6⟩:=Fr.same hS;go_simp;try with_reducible rfl
      try simp only [sA1,sA2,sA3,Act.put,sA4,sA5,sA6]
      iterate 5
       refine wpQ_take (v:=?_) (by rfl) (fun wS hS=>?_) ?_
       rotate_left
       ·obtain ⟨L1,L2,L3,L4,L5,L6⟩:=Fr.same hS;have L7:=Fr.sameR hS;go_simp;try with_reducible rfl
       try simp only [sA1,sA2,sA3,Act.put,sA4,sA5,sA6]
      iterate 10
       refine wpQ_off (by rfl) ?_
       try simp only [sA1,sA2,sA3,Act.put,sA4,sA5,sA6]
      iterate 2
       refine wpQ_take (v:=?_) (by rfl) (fun wS hS=>?_) ?_
       rotate_left
       ·obtain ⟨L1,L2,L3,L4,L5,L6⟩:=Fr.same hS;have L7:=Fr.sameR hS;go_simp;try with_reducible rfl
       try simp only [sA1,sA2,sA3,Act.put,sA4,sA5,sA6]
      refine wpQ_nil ?_
      intro w1 f1
      -- the map is put, in world w1 (f1 : Fr noB W1 w1), with HP : PwT xs (k + 1)
      clear D1
      replace q1:=Cod.rd_fr0 q1 f1
      replace q2:=Cod.rd_fr0 q2 f1
      have hm2:=mpT_fr0 hm' f1
      have hwf:=HW.out.1
      obtain ⟨_,m1,m2,m3⟩:=mputT_all Tryz.underlying81 hm2 hwf (.agg (codS.A r.Parent))
      have HM:=Lib.hid (And.intro m1 (And.intro m2 m3))
      clear m1 m2 m3 hm' q6 hgs hNs
      go_wp2_with fail
      go_roundg (rs.length - (k + 1))
      case measure=>omega
      case rel =>
       obtain ⟨m1,m2,m3⟩:=HM.out
       exact ⟨k + 1,by first | (simp;done) | (simp;omega),rfl,by omega,by rw [m1,HPUT.out HP.out],HO2.out,HP.out,((hf.step0 fa).step0 f1).step1 m2 (by have:=HT.out;omega)⟩
     ·obtain ⟨qk,hqk⟩:∃ q:Nat,q + 1 = k:=⟨k - 1,by omega⟩
      have n0:(0:Int) < (k:Int):=by omega
      have n0':0 < k:=by omega
      clear hk0
      have wq:IntKind.i64.wrap ((k:Int) - 1) = (qk:Int):=by rw [IntKind.wrap_i64];omega
      have c0:(0:Int) ≤ (qk:Int):=by omega
      have c1:(qk:Int) < (rs.length:Int):=by omega
      have p1:=HPV.out qk hqk
      have HNT':=Lib.hid (HNT.out qk hqk)
      have HST':=Lib.hid (fun hc:cmpS (xs[qk]'(by omega)).Node xs[k].Node < 0=>HST.out (.inr ⟨qk,hqk,hc⟩))
      have hxk:xs[k].Node = r.Node:=HND.out
      rw [hxk] at HNT' HST'
      generalize (xs[qk]'(by omega)).Node = pn at p1 HNT' HST'
      have C2:=fun wS:World=>scmp_v wS pn r.Node
      obtain ⟨z,hz⟩:∃ z,z = cmpS pn r.Node:=⟨_,rfl⟩
      rw [← hz] at C2 HNT' HST'
      clear hz hxk hqk HST HNT HPV
      by_cases hneg:z < 0
      ·have HP:=Lib.hid (HST'.out hneg)
       have hneg':¬ 0 ≤ z:=by omega
       refine wp_region_fr (by kernel_rfl) (by kernel_rfl) ?_
       refine wpQ_take (v:=?_) (by rfl) (fun wS hS=>?_) ?_
       rotate_left
       ·obtain ⟨L1,L2,L3,L4,L5,L6⟩:=Fr.same hS;have L7:=Fr.sameR hS;go_simp;try with_reducible rfl
       try simp only [sA1,sA2,sA3,Act.put,sA4,sA5,sA6]
       refine wpQ_call (by rfl) (fun wS hS=>⟨_,_,?qh213,Calls.fr hS (D1 _ hS)⟩) ?qk213
       case qh213=>obtain ⟨L1,L2,L3,L4,L5,L6⟩:=Fr.same hS;go_simp;try with_reducible rfl
       try simp only [sA1,sA2,sA3,Act.put,sA4,sA5,sA6]
       iterate 13
        refine wpQ_take (v:=?_) (by rfl) (fun wS hS=>?_) ?_
        rotate_left
        ·obtain ⟨L1,L2,L3,L4,L5,L6⟩:=Fr.same hS;have L7:=Fr.sameR hS;go_simp;try with_reducible rfl
        try simp only [sA1,sA2,sA3,Act.put,sA4,sA5,sA6]
       refine wpQ_call (by rfl) (fun wS hS=>⟨_,_,?qh221,Calls.fr hS (C2 _)⟩) ?qk221
       case qh221=>obtain ⟨L1,L2,L3,L4,L5,L6⟩:=Fr.same hS;go_simp;try with_reducible rfl
       try simp only [sA1,sA2,sA3,Act.put,sA4,sA5,sA6]
       iterate 3
        refine wpQ_take (v:=?_) (by rfl) (fun wS hS=>?_) ?_
        rotate_left
        ·obtain ⟨L1,L2,L3,L4,L5,L6⟩:=Fr.same hS;have L7:=Fr.sameR hS;go_simp;try with_reducible rfl
        try simp only [sA1,sA2,sA3,Act.put,sA4,sA5,sA6]
       refine wpQ_nil ?_
       intro w1 f1
       -- the map is put, in world w1 (f1 : Fr noB W1 w1), with HP : PwT xs (k + 1)
       clear D1
       replace q1:=Cod.rd_fr0 q1 f1
       replace q2:=Cod.rd_fr0 q2 f1
       have hm2:=mpT_fr0 hm' f1
       have hwf:=HW.out.1
       obtain ⟨_,m1,m2,m3⟩:=mputT_all Tryz.underlying81 hm2 hwf (.agg (codS.A r.Parent))
       have HM:=Lib.hid (And.intro m1 (And.intro m2 m3))
       clear m1 m2 m3 hm' q6 hgs hNs
       go_wp2_with fail
       go_roundg (rs.length - (k + 1))
       case measure=>omega
       case rel =>
        obtain ⟨m1,m2,m3⟩:=HM.out
        exact ⟨k + 1,by first | (simp;done) | (simp;omega),rfl,by omega,by rw [m1,HPUT.out HP.out],HO2.out,HP.out,((hf.step0 fa).step0 f1).step1 m2 (by have:=HT.out;omega)⟩
      ·have hneg':0 ≤ z:=by omega
       refine wp_region_fr (by kernel_rfl) (by kernel_rfl) ?_
       refine wpQ_take (v:=?_) (by rfl) (fun wS hS=>?_) ?_
       rotate_left
       ·obtain ⟨L1,L2,L3,L4,L5,L6⟩:=Fr.same hS;have L7:=Fr.sameR hS;go_simp;try with_reducible rfl
       try simp only [sA1,sA2,sA3,Act.put,sA4,sA5,sA6]
       refine wpQ_call (by rfl) (fun wS hS=>⟨_,_,?qh252,Calls.fr hS (D1 _ hS)⟩) ?qk252
       case qh252=>obtain ⟨L1,L2,L3,L4,L5,L6⟩:=Fr.same hS;go_simp;try with_reducible rfl
       try simp only [sA1,sA2,sA3,Act.put,sA4,sA5,sA6]
       iterate 13
        refine wpQ_take (v:=?_) (by rfl) (fun wS hS=>?_) ?_
        rotate_left
        ·obtain ⟨L1,L2,L3,L4,L5,L6⟩:=Fr.same hS;have L7:=Fr.sameR hS;go_simp;try with_reducible rfl
        try simp only [sA1,sA2,sA3,Act.put,sA4,sA5,sA6]
       refine wpQ_call (by rfl) (fun wS hS=>⟨_,_,?qh260,Calls.fr hS (C2 _)⟩) ?qk260
       case qh260=>obtain ⟨L1,L2,L3,L4,L5,L6⟩:=Fr.same hS;go_simp;try with_reducible rfl
       try simp only [sA1,sA2,sA3,Act.put,sA4,sA5,sA6]
       iterate 3
        refine wpQ_take (v:=?_) (by rfl) (fun wS hS=>?_) ?_
        rotate_left
        ·obtain ⟨L1,L2,L3,L4,L5,L6⟩:=Fr.same hS;have L7:=Fr.sameR hS;go_simp;try with_reducible rfl
        try simp only [sA1,sA2,sA3,Act.put,sA4,sA5,sA6]
       refine wpQ_nil ?_
       intro w1 f1
       go_wp2_with fail
       go_ret
       exact TrTo.no (HNT'.out hneg) ((hf.step0 fa).step0 f1)
   ·have hkn:k = rs.length:=by omega
    subst hkn
    have i1:¬ (rs.length:Int) < (rs.length:Int):=by omega
    rw [List.take_length] at hm
    have fb:Fr noB wr (wr.alloc (.map #[] 0)):=(Fr.refl noB wr).alloc _
    have m2:=mpT_new wr
    have hm2:=mpT_fr0 hm fb
    have hgt:=mpT_lt hm
    clear hlt
    go_wp2_with fail
    have hf2:=hf.step0 fb
    generalize wr.alloc (.map #[] 0) = W2 at fb m2 hm2 hf2 ⊢
    obtain ⟨t2,ht2⟩:∃ t2,t2 = wr.heap.size:=⟨_,rfl⟩
    rw [← ht2] at m2 ⊢
    have HT2:=Lib.hid (show w.heap.size ≤ t2 ∧ t ≠ t2 from ⟨by rw [ht2];exact hf.size,by omega⟩)
    clear ht2 hm fb hgt hf hk
    go_loopg [54] rs.length (fun gk iv wr=>NtB w rs xs t t2 gk iv wr)
    case atStart=>exact ⟨0,[],rfl,by omega,by omega,hm2,m2,GoodK.nil xs,fun i h1 h2=>by omega,hf2⟩
    case round =>
     clear m2 hm2 hf2
     obtain ⟨k,kv,rfl,rfl,hk,hm,hm2,hgd,hall,hf⟩:=hrel
     have HGD:=Lib.hid hgd
     have HALL:=Lib.hid hall
     clear hgd hall
     by_cases hlt:k < rs.length
     ·have hlt2:k < xs.length:=by rw [← hlen.out];exact hlt
      have i1:(k:Int) < (rs.length:Int):=by omega
      have i0:(0:Int) ≤ (k:Int):=by omega
      obtain ⟨g,off,rfl,hg⟩:=hs.adC (by omega)
      have e1:codR.rd wr g (off + k * 8) = some rs[k]:=(hs.fr0 hf).rd k hlt
      have hnd:=(h.at_ k hlt hlt2).node
      have hwf:=(h.wf (List.getElem_mem hlt)).1
      have HST:=Lib.hid (fun (hr:∃ m,reach xs m rs[k].Node = true)=>(show ∀ i (h:i < xs.length),i < k + 1 → ∃ m,reach xs m xs[i].Node = true from fun i h1 h2=>by
       by_cases e:i = k
       ·subst e;rw [hnd];exact hr
       ·exact HALL.out i h1 (by omega)))
      have HNO:=Lib.hid (fun (hr:∀ m,reach xs m rs[k].Node = false)=>not_tree hlt2 (fun m=>by rw [hnd];exact hr m))
      clear hnd hlt2
      generalize rs[k] = r at e1 hwf HST HNO
      have fa:Fr noB wr (wr.alloc (codR.o r)):=(Fr.refl noB wr).alloc _
      have q1:=(rwAt (Cod.rd_new' (C:=codR) wr r)).node
      have fb:Fr noB (wr.alloc (codR.o r)) ((wr.alloc (codR.o r)).alloc (codS.o r.Node)):=(Fr.refl noB _).alloc _
      have b1:=Cod.bxd_new (C:=codS) (wr.alloc (codR.o r)) r.Node
      have hz:(wr.alloc (codR.o r)).heap.size = wr.heap.size + 1:=by simp
      rw [hz] at b1
      have st1:codS.stR ((wr.alloc (codR.o r)).alloc (codS.o zSt)) (.pointer (some ⟨wr.heap.size + 1,0,none⟩)) (.agg (codS.A r.Node)) = .ok .skip ((wr.alloc (codR.o r)).alloc (codS.o r.Node)):=okS.stR_new1 wr _ r.Node zSt
      have f2:=(hf.step0 fa).step0 fb
      have hm':=mpT_fr0 (mpT_fr0 hm fa) fb
      have hm2':=mpT_fr0 (mpT_fr0 hm2 fa) fb
      clear hz hm hm2
      go_wp2_with fail
      generalize (wr.alloc (codR.o r)).alloc (codS.o r.Node) = W3 at fb b1 f2 hm' hm2' ⊢
      obtain ⟨P0,hP0⟩:∃ x,x = wr.heap.size + 1:=⟨_,rfl⟩
      rw [← hP0] at b1 ⊢
      have HP0:=Lib.hid (show w.heap.size ≤ P0 by have:=hf.size;omega)
      clear hP0 st1 q1 fa fb e1
      go_loopg [9,10] (rs.length + 1) (fun gk wv pv wr=>NtC w rs xs t t2 kv r.Node gk wv pv wr)
      case atStart=>exact ⟨P0,none,0,[],r.Node,rfl,rfl,rfl,by simp,b1,HP0.out,hwf,World.ownsRow_nil _ _ _ _,(fun a ha=>by cases ha),(fun x hx=>by cases hx),WayT.nil xs _,hm',hm2',f2⟩
      case round =>
       clear b1 f2 hm' hm2'
       obtain ⟨P,A9,c9,way,u,rfl,rfl,rfl,hwl,hbx,hPn,hwu,hown,hnb,hww,hway,hm,hm2,hf⟩:=hrel
       have q1:=Cod.bxd_rd hbx
       obtain ⟨bb,hlk,hbb⟩:=HGD.out.look u
       have HWAY:=Lib.hid hway
       have HWW:=Lib.hid hww
       have HOWN:=Lib.hid hown
       have HNB:=Lib.hid hnb
       have HBB:=Lib.hid hbb
       have HPn:=Lib.hid hPn
       clear hway hww hown hnb hbb hPn
       by_cases hfx:fixedS u = true
       ·have C1:∀ wS:World,Calls Tryz.prog 32 #[.agg (codS.A u)] wS (Gives wS (.bool true)):=fun wS=>by have:=nfixed_any wS u;rwa [hfx] at this
        have HREACH:=Lib.hid (show ∃ m,reach xs m u = true from ⟨0,hfx⟩)
        clear hfx
        go_upto_region 25 with (go_at_call 32;refine (C1 _).mono ?_;rintro e w5 ⟨rfl,f5⟩)
        clear C1
        -- the way is at its end: u reaches; in world w5 (hf5 : Fr noB w w5)
        clear hlk hbx
        have hm5:=mpT_fr0 hm f5
        have hm52:=mpT_fr0 hm2 f5
        have hf5:=hf.step0 f5
        have hsl:=(Sl.own HOWN.out).fr0 f5
        have hwayb:way.length ≤ 100000:=by omega
        clear q1 hm hm2
        go_wp2_with fail
        go_loopg [92] way.length (fun gk iv wr=>NtD w rs xs t t2 A9 way gk iv wr)
        case atStart=>exact ⟨0,kv,rfl,by omega,by omega,hm5,hm52,HGD.out,hsl,hf5⟩
        case round =>
         clear hm5 hm52 hsl
         obtain ⟨j,kv2,rfl,rfl,hj,hm6,hm62,hgd2,hsl2,hf6⟩:=hrel
         have HGD2:=Lib.hid hgd2
         clear hgd2
         by_cases hltj:j < way.length
         ·have i3:(j:Int) < (way.length:Int):=by omega
          have i4:(0:Int) ≤ (j:Int):=by omega
          obtain ⟨g5,off5,rfl,hg5⟩:=hsl2.adC (by omega)
          have e5:codS.rd wr g5 (off5 + j * 2) = some way[j]:=hsl2.rd j hltj
          have hwj:=HWW.out _ (List.getElem_mem hltj)
          have hrj:=HWAY.out.all _ (List.getElem_mem hltj)
          have hne5:g5 ≠ t2:=hsl2.ne_map (Cod.row_ne (by intro h0;rw [h0] at hltj;simp at hltj)) hm62
          have HSL:=Lib.hid hsl2
          generalize way[j] = y at e5 hwj hrj
          have HRJ:=Lib.hid (show ∃ m,reach xs m y = true by obtain ⟨m,hm⟩:=HREACH.out;exact hrj m hm)
          clear hrj
          have fy:Fr noB wr (wr.alloc (codS.o y)):=(Fr.refl noB wr).alloc _
          have ny:=Cod.rd_new' (C:=codS) wr y
          have hm7:=mpT_fr0 hm6 fy
          have hm72:=mpT_fr0 hm62 fy
          obtain ⟨_,m1,m2,m3⟩:=mputT_all Tryz.underlying68 hm72 hwj (.bool true)
          have HM:=Lib.hid (And.intro m1 (And.intro m2 m3))
          clear m1 m2 m3 hm62
          go_wp2_with fail
          go_roundg (way.length - (j + 1))
          case measure=>omega
          case rel =>
           obtain ⟨m1,m2,m3⟩:=HM.out
           have ht2:=HT2.out
           exact ⟨j + 1,_,by simp,rfl,by omega,mpT_fr hm7 m2 (fun e=>ht2.2 e),m1,HGD2.out.put HRJ.out,(HSL.out.fr0 fy).fr m2 (fun a ha e=>by
            injection ha with ha
            subst ha
            exact hne5 e),(hf6.step0 fy).step1 m2 ht2.1⟩
         ·have hjn:j = way.length:=by omega
          have i3:¬ (j:Int) < (way.length:Int):=by omega
          go_wp2_with fail
          go_roundg (rs.length - (k + 1))
          case measure=>omega
          case rel=>exact ⟨k + 1,kv2,by simp,rfl,by omega,hm6,hm62,HGD2.out,HST.out (by obtain ⟨m,hm⟩:=HREACH.out;exact HWAY.out.up m hm),hf6⟩
       ·have hfx':fixedS u = false:=by simpa using hfx
        have C1:∀ wS:World,Calls Tryz.prog 32 #[.agg (codS.A u)] wS (Gives wS (.bool false)):=fun wS=>by have:=nfixed_any wS u;rwa [hfx'] at this
        have HFX:=Lib.hid hfx'
        clear hfx hfx'
        cases bb with
        | true =>
         have HREACH:=Lib.hid (HBB.out rfl)
         go_upto_region 25 with (go_at_call 32;refine (C1 _).mono ?_;rintro e w5 ⟨rfl,f5⟩;have q15:=Cod.rd_fr0 q1 f5;have hm25:=mpT_fr0 hm2 f5)
         clear C1 q15 hm25
         -- the way is at its end: u reaches; in world w5 (hf5 : Fr noB w w5)
         clear hlk hbx
         have hm5:=mpT_fr0 hm f5
         have hm52:=mpT_fr0 hm2 f5
         have hf5:=hf.step0 f5
         have hsl:=(Sl.own HOWN.out).fr0 f5
         have hwayb:way.length ≤ 100000:=by omega
         clear q1 hm hm2
         go_wp2_with fail
         go_loopg [92] way.length (fun gk iv wr=>NtD w rs xs t t2 A9 way gk iv wr)
         case atStart=>exact ⟨0,kv,rfl,by omega,by omega,hm5,hm52,HGD.out,hsl,hf5⟩
         case round =>
          clear hm5 hm52 hsl
          obtain ⟨j,kv2,rfl,rfl,hj,hm6,hm62,hgd2,hsl2,hf6⟩:=hrel
          have HGD2:=Lib.hid hgd2
          clear hgd2
          by_cases hltj:j < way.length
          ·have i3:(j:Int) < (way.length:Int):=by omega
           have i4:(0:Int) ≤ (j:Int):=by omega
           obtain ⟨g5,off5,rfl,hg5⟩:=hsl2.adC (by omega)
           have e5:codS.rd wr g5 (off5 + j * 2) = some way[j]:=hsl2.rd j hltj
           have hwj:=HWW.out _ (List.getElem_mem hltj)
           have hrj:=HWAY.out.all _ (List.getElem_mem hltj)
           have hne5:g5 ≠ t2:=hsl2.ne_map (Cod.row_ne (by intro h0;rw [h0] at hltj;simp at hltj)) hm62
           have HSL:=Lib.hid hsl2
           generalize way[j] = y at e5 hwj hrj
           have HRJ:=Lib.hid (show ∃ m,reach xs m y = true by obtain ⟨m,hm⟩:=HREACH.out;exact hrj m hm)
           clear hrj
           have fy:Fr noB wr (wr.alloc (codS.o y)):=(Fr.refl noB wr).alloc _
           have ny:=Cod.rd_new' (C:=codS) wr y
           have hm7:=mpT_fr0 hm6 fy
           have hm72:=mpT_fr0 hm62 fy
           obtain ⟨_,m1,m2,m3⟩:=mputT_all Tryz.underlying68 hm72 hwj (.bool true)
           have HM:=Lib.hid (And.intro m1 (And.intro m2 m3))
           clear m1 m2 m3 hm62
           go_wp2_with fail
           go_roundg (way.length - (j + 1))
           case measure=>omega
           case rel =>
            obtain ⟨m1,m2,m3⟩:=HM.out
            have ht2:=HT2.out
            exact ⟨j + 1,_,by simp,rfl,by omega,mpT_fr hm7 m2 (fun e=>ht2.2 e),m1,HGD2.out.put HRJ.out,(HSL.out.fr0 fy).fr m2 (fun a ha e=>by
             injection ha with ha
             subst ha
             exact hne5 e),(hf6.step0 fy).step1 m2 ht2.1⟩
          ·have hjn:j = way.length:=by omega
           have i3:¬ (j:Int) < (way.length:Int):=by omega
           go_wp2_with fail
           go_roundg (rs.length - (k + 1))
           case measure=>omega
           case rel=>exact ⟨k + 1,kv2,by simp,rfl,by omega,hm6,hm62,HGD2.out,HST.out (by obtain ⟨m,hm⟩:=HREACH.out;exact HWAY.out.up m hm),hf6⟩
        | false =>
         go_upto_region 18 with (go_at_call 32;refine (C1 _).mono ?_;rintro e w5 ⟨rfl,f5⟩;have q15:=Cod.rd_fr0 q1 f5;have hm25:=mpT_fr0 hm2 f5)
         clear C1 hlk q1
         have hm5:=mpT_fr0 hm f5
         have hf5:=hf.step0 f5
         have hb5:=Cod.bxd_fr0 hbx f5
         have ho5:=own_new0 HOWN.out f5
         have hPs:=Cod.bxd_lt hb5
         clear hm hm2 hf hbx HOWN
         rcases h.find u with ⟨g1,g2⟩ | ⟨r',x',g1,g2,g3⟩
         ·have hlk:Go.Proofs.YtnkdnbjmhoegkaaGreat.look (parK rs) u = none:=by rw [look_par,g1];rfl
          have HN:=Lib.hid (HNO.out (HWAY.out.stuck HFX.out g2))
          clear g1 g2
          go_wp2_with fail
          go_ret
          exact TrTo.no HN.out (hf5.alloc _)
         ·have hlk:Go.Proofs.YtnkdnbjmhoegkaaGreat.look (parK rs) u = some (.agg (codS.A r'.Parent)):=by rw [look_par,g1];rfl
          by_cases hlong:rs.length < way.length
          ·have HN:=Lib.hid (HNO.out (HWAY.out.long (by rw [← hlen.out];exact hlong)))
           have n1:(rs.length:Int) < (way.length:Int):=by omega
           clear g1 g2
           go_wp2_with fail
           go_ret
           exact TrTo.no HN.out (hf5.alloc _)
          ·have n1:¬ (rs.length:Int) < (way.length:Int):=by omega
           have HWAY':=Lib.hid (show WayT xs r.Node r'.Parent (way ++ [u]) by have:=HWAY.out.step HFX.out g2;rwa [g3.parent] at this)
           have hwp:=g3.wp
           clear g1 g2 g3
           generalize r'.Parent = up at hlk HWAY' hwp
           have fu:Fr noB w5 (w5.alloc (codS.o up)):=(Fr.refl noB w5).alloc _
           have fr_:Fr noB (w5.alloc (codS.o up)) ((w5.alloc (codS.o up)).alloc (codS.ro [u])):=(Fr.refl noB _).alloc _
           have hbu:=Cod.bxd_fr0 (Cod.bxd_new (C:=codS) w5 up) fr_
           have sl6:=Cod.sl_new (C:=codS) (w5.alloc (codS.o up)) [u]
           have hz:(w5.alloc (codS.o up)).heap.size = w5.heap.size + 1:=by simp
           rw [hz] at sl6
           have hm6:=mpT_fr0 (mpT_fr0 hm5 fu) fr_
           have hm26:=mpT_fr0 (mpT_fr0 hm25 fu) fr_
           have hf6:=(hf5.step0 fu).step0 fr_
           have hb6:=Cod.bxd_fr0 (Cod.bxd_fr0 hb5 fu) fr_
           have q16:=Cod.bxd_rd (Cod.bxd_fr0 hb5 fu)
           have ho6:=own_new0 (own_new0 ho5 fu) fr_
           have hsz:((w5.alloc (codS.o up)).alloc (codS.ro [u])).heap.size = w5.heap.size + 2:=by simp
           have HA:=Lib.hid (show ∀ a,A9 = some a → a.block < w5.heap.size from fun a ha=>by
            subst ha
            exact (own_lt ho5 a.block rfl).2)
           have HSZ:=Lib.hid hsz
           clear hz hsz fu fr_ hm25 hb5 ho5 hf5
           go_upto_region 21 with fail
           clear q15 hlk hm5
           go_upto_region 22 with (at_builtin;refine wpList_appC' etS w _ rfl _ _ rfl A9 way.length c9 way rfl rfl ho6 (some ⟨w5.heap.size + 1,0,none⟩) 1 1 [u] rfl sl6 rfl (by simp;omega) hf6.size ?_;intro A7 c7 w7 hc7 hmx7 ho7 hg7 hA7;obtain ⟨way',hway'⟩:∃ l:List St,l = way ++ [u]:=⟨_,rfl⟩;rw [← hway'] at ho7 ⊢;have HWE:=Lib.hid hway';clear hway')
           have hway':=HWE.out
           rw [← hway'] at HWAY'
           clear hway'
           have fg:=Fr.ofGrown (M:=fun b=>A9.map (·.block) = some b) hg7 (fun g hg=>hg)
           have hnA:¬ A9.map (·.block) = some P:=fun e=>by
            cases hA:A9 with
            | none=>rw [hA] at e;cases e
            | some a =>
             rw [hA] at e
             simp only [Option.map_some,Option.some.injEq] at e
             exact HNB.out a hA e
           have hnN:¬ A9.map (·.block) = some w5.heap.size:=fun e=>by
            cases hA:A9 with
            | none=>rw [hA] at e;cases e
            | some a =>
             rw [hA] at e
             simp only [Option.map_some,Option.some.injEq] at e
             have:=HA.out a hA
             omega
           have hb7:=Cod.bxd_fr hb6 fg hnA
           have hbu7:=Cod.bxd_fr hbu fg hnN
           have qu7:=Cod.bxd_rd hbu7
           have hmA:∀ {r0:Nat} {kv0:List (St × Value)},mpT ((w5.alloc (codS.o up)).alloc (codS.ro [u])) r0 = some kv0 → mpT w7 r0 = some kv0:=fun {r0 kv0} hm0=>mpT_fr hm0 fg (fun e=>by
            have hne:way ≠ [] ∨ way = []:=by by_cases hw0:way = [] <;> simp [hw0]
            cases hA:A9 with
            | none=>rw [hA] at e;cases e
            | some a =>
             rw [hA] at e
             simp only [Option.map_some,Option.some.injEq] at e
             rcases ho6.2 with ⟨hv,_⟩ | ⟨gg,cap,cur,hv,_,hgg,_⟩
             ·injection hv with h1 _ _
              rw [hA] at h1;cases h1
             ·injection hv with h1 _ _
              rw [hA] at h1
              injection h1 with h1
              subst h1
              exact mpT_ne hm0 hgg e)
           have hm7:=hmA hm6
           have hm27:=hmA hm26
           have hf7:=Fr.own' hf6 ho6 hg7
           have hst:=okS.stR_box hb7 up
           obtain ⟨p1,p2,p3⟩:=Cod.put_fr hb7 up
           have q8:=Cod.bxd_rd p3
           have hm8:=mpT_put (z:=up) hb7 hm7
           have hm28:=mpT_put (z:=up) hb7 hm27
           have hAP:∀ g,(Value.slice A7 way'.length c7).ownBlock = some g → ¬ oneB P g:=fun g hg e=>by
            have e':g = P:=e
            subst e'
            rw [ownBlock_sl'] at hg
            rcases hA7 with h1 | h1
            ·rw [h1] at hg;exact hnA hg
            ·rw [h1] at hg
             injection hg with hg
             have:=HSZ.out
             omega
           have ho8:=own_fr ho7 p1 hAP
           have hf8:=hf7.step1 p1 HPn.out
           clear hg7 hA7 hmA hm7 hm27 hb6 hbu hbu7 ho6 hm6 hm26 sl6 q16 hnN hnA fg hf7 hf6 hc7 hmx7 hAP
           generalize hW8:codS.put w7 P up = W8 at hst p1 p2 p3 q8 hm8 hm28 ho8 hf8
           clear p2 hW8
           have n8:=Cod.bxd_new (C:=codS) W8 up
           have fn8:Fr noB W8 (W8.alloc (codS.o up)):=(Fr.refl noB W8).alloc _
           have HO8:=Lib.hid ho8
           have HW':=HWE
           clear ho8 ho7 hb7
           go_wp2_with fail
           go_roundg (rs.length + 1 - way'.length)
           case measure=>have:=HW'.out;subst this;simp;omega
           case rel =>
            have hw':=HW'.out
            refine ⟨W8.heap.size,A7,c7,way',up,rfl,rfl,rfl,by subst hw';simp;omega,n8,hf8.size,hwp,own_new0 HO8.out fn8,fun a ha e=>?_,fun x hx=>?_,HWAY'.out,mpT_fr0 hm8 fn8,mpT_fr0 hm28 fn8,hf8.step0 fn8⟩
            ·subst ha
             have:=(own_lt HO8.out a.block rfl).2
             omega
            ·subst hw'
             rcases List.mem_append.1 hx with hx | hx
             ·exact HWW.out x hx
             ·rw [List.mem_singleton] at hx
              subst hx;exact hwu
     ·have hkn:k = rs.length:=by omega
      subst hkn
      have i1:¬ (rs.length:Int) < (rs.length:Int):=by omega
      go_wp2_with fail
      go_ret
      have hl:=hlen.out
      exact ⟨true,rfl,hf,by simp only [true_iff];exact treeOk_of (by omega) (fun i hi=>HOK.out i hi (by omega)) (by have:=HPW.out;rwa [hl] at this) (fun i hi=>HALL.out i hi (by omega))⟩
 ·have n5:(5000:Int) < (rs.length:Int):=by omega
  have HN:=Lib.hid (not_long (xs:=xs) (by rw [← hlen.out];exact hl5))
  clear hl5
  go_enter Tryz.func13,Tryz.ntmps13
  go_wp2_with fail
  go_ret
  exact TrTo.no HN.out (Fr.refl _ _)
end Go.Proofs.YtnkdnbjmhoegkaaGreat
