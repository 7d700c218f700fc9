/- The walk of PackTurns. Arguments [][]byte opened; what the library's variable holds. -/
import Derived.Test.YtahllkifmmjbdaaPkQKp
import Derived.Test.YtahllkifmmjbdaaClsWKp
import Derived.Test.YtahllkifmmjbdaaFrameOKp
import Derived.HandedShaped
import Derived.Shelf.Vars
set_option linter.unusedVariables false
set_option linter.unusedSimpArgs false
namespace Go.Proofs.Ytahllkifmmjbdaa
open Go.RowKit Go.Maps Go.Sort
set_option maxRecDepth 100000
theorem and_maskP (x:Int) (m:Nat) (hm:m ≤ 1048575):∃ r:Nat,bits BinOp.and IntKind.i64 x (m:Int) = (r:Int) ∧ r ≤ m:=by
 refine ⟨(BitVec.ofInt 64 x &&& BitVec.ofInt 64 (m:Int)).toNat,?_,?_⟩
 ·have hle:(BitVec.ofInt 64 x &&& BitVec.ofInt 64 (m:Int)).toNat ≤ 1048575:=by
   rw [BitVec.toNat_and]
   refine Nat.le_trans Nat.and_le_right ?_
   rw [BitVec.toNat_ofInt]
   omega
  show IntKind.i64.wrap (((BitVec.ofInt 64 x &&& BitVec.ofInt 64 (m:Int)).toNat:Nat):Int) = _
  rw [IntKind.wrap_i64]
  omega
 ·rw [BitVec.toNat_and]
  refine Nat.le_trans Nat.and_le_right ?_
  rw [BitVec.toNat_ofInt]
  omega
theorem Sl.setB {w:World} {g off:Nat} {l:List UInt8} (hs:Sl w (some ⟨g,off,none⟩) (bv l)) (i:Nat) (hi:i < l.length) (t:UInt8):Sl (w.setCell ⟨g,off + i,none⟩ (u8v t)) (some ⟨g,off,none⟩) (bv (l.set i t)):=by
 intro hx
 obtain ⟨g',off',e,hg,hc⟩:=hs (bv_ne (by intro h;rw [h] at hi;simp at hi))
 injection e with e
 injection e with e1 e2
 subst e1 e2
 refine ⟨g,off,rfl,by simpa [World.setCell] using hg,fun j u hu=>?_⟩
 have hj:j < l.length:=by have:=(List.getElem?_eq_some_iff.1 hu).1;rw [bv_length,List.length_set] at this;exact this
 by_cases hij:i = j
 ·subst hij
  rw [bv_get _ _ (by rw [List.length_set];exact hj),List.getElem_set_self] at hu
  injection hu with hu
  rw [← hu]
  exact World.cell?_setCell_same' _ _ _ (by rw [hc i _ (bv_get l i hj)];rfl)
 ·rw [World.cell?_setCell_other _ _ _ _ (by intro e;injection e;omega)]
  refine hc j u ?_
  rw [bv_get _ _ (by rw [List.length_set];exact hj),List.getElem_set_ne hij] at hu
  rw [bv_get _ _ hj]
  exact hu
theorem writeF_len (xs:List (List UInt8)):9 ≤ (writeF xs).length:=by
 have h:∀ (l:List (List UInt8)) (o:List UInt8) (es:List PeP),o.length ≤ (putsF l o es).length:=by
  intro l
  induction l with
  | nil=>exact fun o es=>Nat.le_refl _
  | cons b l ih =>
   intro o es
   refine Nat.le_trans ?_ (ih _ _)
   simp
 unfold writeF sealC
 have h1:=h (onceF xs []) ([80,76,82,68] ++ numB (onceF xs []).length) []
 have h2:0 < (numB (onceF xs []).length).length:=numB_pos _
 rw [List.length_append]
 simp only [List.length_append,List.length_cons,List.length_nil] at h1
 show 9 ≤ _ + 4
 omega
theorem putsF_most (M:Nat) (hM:M ≤ 1048576):∀ (l:List (List UInt8)) (o:List UInt8) (es:List PeP),(∀ x ∈ l,x.length ≤ M) → (putsF l o es).length ≤ o.length + l.length * (M + 20)
 | [],o,es,_=>by simp [putsF]
 | b :: l,o,es,h=>by
  have ih:=putsF_most M hM l (o ++ (shortF b es).1) (es ++ [⟨b,(shortF b es).2⟩]) (fun x hx=>h x (List.mem_cons_of_mem _ hx))
  have h1:=shortL_len b es (min 10 es.length)
  have hb:=h b (List.mem_cons_self ..)
  have h2:(textF [0] b).length ≤ M + 20:=by
   unfold textF
   have:=numB_length b.length (by omega)
   simp only [List.length_append,List.length_singleton]
   omega
  have h3:(shortF b es).1.length ≤ M + 20:=Nat.le_trans h1 h2
  rw [List.length_append] at ih
  show (putsF l _ _).length ≤ _
  rw [List.length_cons,Nat.add_mul,Nat.one_mul]
  omega
theorem writeF_most (xs:List (List UInt8)) (M:Nat) (hl:xs.length ≤ 100) (h:∀ x ∈ xs,x.length ≤ M) (hM:M ≤ 1048576:=by omega):(writeF xs).length ≤ 1000000000:=by
 have h1:=putsF_most M hM (onceF xs []) ([80,76,82,68] ++ numB (onceF xs []).length) [] (fun x hx=>h x (((onceF_mem xs [] x).1 hx).elim id (fun h=>by cases h)))
 have h2:=onceF_len xs []
 have h3:=numB_length (onceF xs []).length (by simp at h2;omega)
 have h4:(onceF xs []).length * (M + 20) ≤ 100 * (1048576 + 20):=Nat.mul_le_mul (by simp at h2;omega) (by omega)
 unfold writeF sealC
 rw [List.length_append]
 simp only [List.length_append,List.length_cons,List.length_nil] at h1
 show _ + 4 ≤ _
 omega
theorem writeF_fit (xs:List (List UInt8)):fitC (writeF xs):=seal_fit _
theorem own_at {w0 w:World} {A:Option Addr} {c:Nat} {l:List UInt8} (h:OwnB w0 w A c l) (hl:0 < l.length):∃ g,A = some ⟨g,0,none⟩ ∧ ∀ j,w.frozen? ⟨g,j,none⟩ = false:=by
 rcases h.2 with ⟨hv,hn⟩ | ⟨g,cap,cur,hv,_,hh,_⟩
 ·omega
 ·injection hv with hv
  exact ⟨g,hv,fun j=>by simp [World.frozen?,hh]⟩
structure BysW (w:World) (rs:List SlW) (xs:List (List UInt8)):Prop where
 len:rs.length = xs.length
 at_:∀ i (h:i < rs.length) (h':i < xs.length),xs[i].length = rs[i].n ∧ rs[i].n ≤ rs[i].c ∧ Sl w rs[i].A (bv xs[i]) ∧ (rs[i].A = none → rs[i].c = 0)
theorem sumN_mem {rs:List SlW} {r:SlW} (h:r ∈ rs):r.n ≤ sumN rs:=by
 unfold sumN
 induction rs with
 | nil=>cases h
 | cons x rs ih =>
  rw [List.map_cons,List.sum_cons]
  rcases List.mem_cons.1 h with rfl | h
  ·omega
  ·have:=ih h;omega
set_option maxHeartbeats 8000000 in
theorem turns08_any (w:World) (z:Int) (hz:w.cell? ⟨0,0,none⟩ = some (.int .i64 z)) (hw0:0 < w.heap.size) (A:Option Addr) (c:Nat) (rs:List SlW) (xs:List (List UInt8)) (hs:Sl w A (codB.row rs)) (hb:rs.length ≤ 140737488355328) (hX:BysW w rs xs) (hbd:∀ r ∈ rs,r.n ≤ 140737488355328) (at_:Int) (t:UInt8) :
  Calls Try.prog 3 #[.slice A rs.length c,.int .i64 at_,.int .u8 (t.toNat:Int)] w (Gives w (.bool true)):=by
 have HZ:=Lib.hid (And.intro hz hw0)
 have HS:=Lib.hid hs
 have HB:=Lib.hid hb
 have HX:=Lib.hid hX
 have HD:=Lib.hid hbd
 clear hz hw0 hs hb hX hbd
 have CA:=Lib.hid (alive08_any w z HZ.out.1 HZ.out.2)
 go_enter Try.func3,Try.ntmps3
 go_upto_region 3 with (go_at_call 4;refine CA.out.mono ?_;rintro e w1 ⟨rfl,hf1⟩;have HF1:=Lib.hid hf1;clear hf1)
 have CF:=Lib.hid (few_any w1 A _ c rs rfl (HS.out.fr0 HF1.out) HB.out HD.out)
 go_upto_if 18 with (go_at_call 5;refine CF.out.mono ?_;rintro e w2 ⟨h2,b,rfl,hbb⟩;replace h2:=h2.symm;subst h2;have HBB:=Lib.hid hbb;clear hbb)
 cases b with
 | false =>
  go_wp2_with fail
  go_ret
  exact ⟨rfl,HF1.out⟩
 | true =>
  have HSM:=Lib.hid (HBB.out rfl)
  have HXB:=Lib.hid (show BsIn w1 rs xs from ⟨HX.out.len,fun i h1 h2=>by
   obtain ⟨a,b,c,d⟩:=HX.out.at_ i h1 h2
   have:=sumN_mem (List.getElem_mem h1)
   have:=HSM.out.1
   exact ⟨a,b,c.fr0 HF1.out,by omega⟩⟩)
  have HRN:=Lib.hid (show ∀ r ∈ rs,r.n ≤ 6000 from fun r hr=>by have:=sumN_mem hr;have:=HSM.out.1;omega)
  have CW:=Lib.hid (write_any w1 A _ c rs xs rfl (HS.out.fr0 HF1.out) HXB.out (by have:=HSM.out.2;omega) (fun r hr=>by have:=HRN.out r hr;omega) (fun r hr=>by
   obtain ⟨i,hi,rfl⟩:=List.getElem_of_mem hr
   exact (HX.out.at_ i hi (by rw [← HX.out.len];exact hi)).2.2.2) z (cell_fr0 HZ.out.1 HF1.out) (Nat.lt_of_lt_of_le HZ.out.2 HF1.out.size))
  obtain ⟨X,hX2⟩:∃ X,X = writeF xs:=⟨_,rfl⟩
  have HX2:=Lib.hid hX2
  have HXL:=Lib.hid (show 9 ≤ X.length from by rw [hX2];exact writeF_len xs)
  have hxl:xs.length ≤ 100:=by have:=HXB.out.len;have:=HSM.out.2;omega
  have hxm:∀ x ∈ xs,x.length ≤ 6000:=by
   intro x hx
   obtain ⟨i,hi,rfl⟩:=List.getElem_of_mem hx
   have h1:=(HXB.out.at_ i (by rw [HXB.out.len];exact hi) hi).len
   have h2:=HRN.out _ (List.getElem_mem (show i < rs.length by rw [HXB.out.len];exact hi))
   omega
  have HXM:=Lib.hid (show X.length ≤ 1000000000 from by rw [hX2];exact writeF_most xs 6000 hxl hxm)
  clear hxl hxm
  have CW2:=Lib.hid (show Calls Try.prog 6 #[.slice A rs.length c,.slice none 0 0] w1 (fun e w'=>∃ (A1:Option Addr) (n1 c1 q:Nat),e = .returned (.tuple #[.slice A1 n1 c1,.int .i64 (q:Int)]) ∧ Fr noB w1 w' ∧ (q = 0 ∧ n1 = X.length ∧ OwnB w1 w' A1 c1 X ∨ q = 60 ∧ ¬ NoClash nameH xs)) from by
   refine CW.out.mono ?_
   rintro e w' ⟨hf,⟨A1,c1,rfl,ho⟩ | ⟨rfl,x,hx,y,hy,hne,hh⟩⟩
   ·rw [← hX2] at ho
    exact ⟨A1,_,c1,0,rfl,hf,.inl ⟨rfl,by rw [hX2],ho⟩⟩
   ·exact ⟨none,0,0,60,rfl,hf,.inr ⟨rfl,fun h=>hne (h.inj x hx y hy hh)⟩⟩)
  clear hX2 CW CF CA HBB
  go_upto_region 6 with (go_at_call 6;refine CW2.out.mono ?_;rintro e w2 ⟨A1,n1,c1,q,rfl,hf2,hq⟩;have HF2:=Lib.hid (HF1.out.step0 hf2);have HQ:=Lib.hid hq;have HFA:=Lib.hid hf2;clear hf2 hq)
  rcases HQ.out with ⟨rfl,rfl,ho⟩ | ⟨rfl,hcl⟩
  ·have HO:=Lib.hid ho
   clear ho HQ CW2
   have n9:¬ (X.length:Int) < 9:=by have:=HXL.out;omega
   obtain ⟨m,hm,hmm⟩:=and_maskP at_ 1048575 (by decide)
   obtain ⟨i,hi⟩:∃ i,i = m % X.length:=⟨_,rfl⟩
   have HI:=Lib.hid (show i < X.length by rw [hi];exact Nat.mod_lt _ (by have:=HXL.out;omega))
   have hm2:bits BinOp.and IntKind.i64 at_ 1048575 = (m:Int):=hm
   have x0:((X.length:Int) == 0) = false:=by rw [beq_eq_false_iff_ne];have:=HXL.out;omega
   have hrem:Int.tmod (m:Int) (X.length:Int) = (i:Int):=by rw [hi];rfl
   clear hm hmm hi
   go_upto_region 11 with fail
   obtain ⟨g,rfl,hfz⟩:=own_at HO.out (by have:=HXL.out;omega)
   have HFZ:=Lib.hid hfz
   have HC1:=Lib.hid (show X.length ≤ c1 from own_cap HO.out)
   have HGW:=Lib.hid (show w1.heap.size ≤ g from (HO.out.lt g rfl).1)
   have j0:(0:Int) ≤ (i:Int):=by omega
   have j1:(i:Int) ≤ (c1:Int):=by have:=HC1.out;have:=HI.out;omega
   have j2:(i:Int) < (X.length:Int):=by have:=HI.out;omega
   have htl:(X.take i).length = i:=by rw [List.length_take];have:=HI.out;omega
   have HTL:=Lib.hid htl
   have CR1:=Lib.hid (show Calls Try.prog 8 #[.slice (some ⟨g,0,none⟩) i c1,.nilFunc] w2 (fun e w'=>∃ (o:Option Addr) (q:Nat),e = .returned (.tuple #[.pointer o,.int .i64 (q:Int)]) ∧ Fr noB w2 w' ∧ (q ≠ 20 → okPk (X.take i) = true)) from by
    refine (pkRead_any w2 (some ⟨g,0,none⟩) i c1 (X.take i) htl (by rw [htl];have:=HC1.out;have:=HI.out;omega) (Sl.own HO.out).takeB (by rw [htl];have:=HXM.out;have:=HI.out;omega)).mono ?_
    have hok:∀ n,readF (X.take i) = n → n ≠ .error 20 → okPk (X.take i) = true:=by
     intro n hn hne
     cases hk:okPk (X.take i) with
     | true=>rfl
     | false=>exact absurd (by rw [← hn];unfold readF;rw [hk];rfl) hne
    rintro e w' ⟨hf,⟨n,hn,rfl⟩ | ⟨es,P,hn,rfl,_⟩⟩
    ·exact ⟨none,n,rfl,hf,fun h=>hok _ hn (fun e=>h (Except.error.inj e))⟩
    ·exact ⟨_,0,rfl,hf,fun _=>hok _ hn (fun e=>by cases e)⟩)
   clear hfz htl hrem hm2 x0
   go_upto_region 12 with (go_at_call 8;refine CR1.out.mono ?_;rintro e w3 ⟨o,q,rfl,hf3,hq⟩;have HF3:=Lib.hid hf3;have HQ:=Lib.hid hq;clear hf3 hq)
   have HO3:=Lib.hid (own_fr HO.out HF3.out (fun _ _=>by simp [noB]))
   have HF4:=Lib.hid (HF2.out.step0 HF3.out)
   have CSL:=Lib.hid (show q ≠ 20 → Calls Try.prog 9 #[.slice (some ⟨g,0,none⟩) i c1] w3 (fun e w'=>e = .returned (.bool true) ∧ Fr noB w3 w') from fun hq=>by
    obtain ⟨h8,hf⟩:=readF_fit (HQ.out hq)
    refine (sealed_any w3 (some ⟨g,0,none⟩) i c1 (X.take i) HTL.out (by rw [HTL.out];have:=HC1.out;have:=HI.out;omega) (Sl.own HO3.out).takeB (by rw [HTL.out];have:=HXM.out;have:=HI.out;omega)).mono ?_
    rintro e w' ⟨b,rfl,hb,hf2⟩
    exact ⟨by rw [hb h8 hf],hf2⟩)
   clear CR1 HO HF2 HF3
   by_cases hq:q = 20
   ·subst hq
    go_upto_region 14 with fail
    have HOW:=Lib.hid HO3.out
    have HFW:=Lib.hid HF4.out
    clear HO3 HF4 HQ CSL
    have e1:w3.cell? ⟨g,i,none⟩ = some (.int .u8 ((X[i]'HI.out).toNat:Int)):=by
     obtain ⟨g',off',e,_,hc⟩:=(Sl.own HOW.out) (bv_ne (by intro h;have:=HI.out;rw [h] at this;simp at this))
     injection e with e
     injection e with e1 e2
     subst e1 e2
     have:=hc i _ (bv_get X i HI.out)
     rwa [Nat.zero_add] at this
    have z1:w3.frozen? ⟨g,i,none⟩ = false:=by
     obtain ⟨g',e,h⟩:=own_at HOW.out (by have:=HXL.out;omega)
     injection e with e
     injection e with e
     rw [e];exact h i
    obtain ⟨xi,hxi⟩:∃ xi,xi = X[i]'HI.out:=⟨_,rfl⟩
    rw [← hxi] at e1
    have HXI:=Lib.hid hxi
    clear hxi
    by_cases ht:xi = t
    ·have b1:((xi.toNat:Int) == (t.toNat:Int)) = true:=by rw [ht];simp
     go_wp2_with fail
     go_ret
     exact ⟨rfl,HFW.out⟩
    ·have b1:((xi.toNat:Int) == (t.toNat:Int)) = false:=by
      rw [beq_eq_false_iff_ne]
      exact fun h=>ht (UInt8.toNat_inj.1 (by omega))
     have HT:=Lib.hid ht
     clear ht
     go_upto_region 17 with fail
     have fs:Fr (oneB g) w3 (w3.setCell ⟨g,i,none⟩ (.int .u8 (t.toNat:Int))):=(Fr.refl (oneB g) w3).setCell (p:=⟨g,i,none⟩) (fun _=>rfl) _
     have HFY:=Lib.hid (HFW.out.step1 fs (by have:=HGW.out;have:=HF1.out.size;omega))
     have CR2:=Lib.hid (show Calls Try.prog 8 #[.slice (some ⟨g,0,none⟩) X.length c1,.nilFunc] (w3.setCell ⟨g,i,none⟩ (.int .u8 (t.toNat:Int))) (fun e w'=>e = .returned (.tuple #[.pointer none,.int .i64 20]) ∧ Fr noB (w3.setCell ⟨g,i,none⟩ (.int .u8 (t.toNat:Int))) w') from by
      have hs5:=Sl.setB (Sl.own HOW.out) i HI.out t
      rw [Nat.zero_add] at hs5
      refine (pkRead_any _ (some ⟨g,0,none⟩) X.length c1 (X.set i t) (List.length_set ..) (by rw [List.length_set];exact HC1.out) hs5 (by rw [List.length_set];have:=HXM.out;omega)).mono ?_
      rw [readF_unfit (turn_unfit HI.out (by rw [HX2.out];exact writeF_fit xs) (by rw [← HXI.out];exact HT.out))]
      rintro e w' ⟨hf,⟨n,hn,rfl⟩ | ⟨es,P,hn,_⟩⟩
      ·have hn:=Except.error.inj hn
       subst hn
       exact ⟨rfl,hf⟩
      ·cases hn)
     clear e1 z1 fs
     go_wp2_with (go_at_call 8;refine CR2.out.mono ?_;rintro e w8 ⟨rfl,hf8⟩;have HF8:=Lib.hid hf8;clear hf8)
     go_ret
     exact ⟨rfl,HFY.out.step0 HF8.out⟩
   ·have q20:((q:Int) == 20) = false:=by rw [beq_eq_false_iff_ne];omega
    go_upto_region 14 with (go_at_call 9;refine (CSL.out hq).mono ?_;rintro e w4 ⟨rfl,hf4⟩;have HF5:=Lib.hid hf4;clear hf4)
    have HOW:=Lib.hid (own_fr HO3.out HF5.out (fun _ _=>by simp [noB]))
    have HFW:=Lib.hid (HF4.out.step0 HF5.out)
    clear HO3 HF4 HQ CSL HF5
    have e1:w4.cell? ⟨g,i,none⟩ = some (.int .u8 ((X[i]'HI.out).toNat:Int)):=by
     obtain ⟨g',off',e,_,hc⟩:=(Sl.own HOW.out) (bv_ne (by intro h;have:=HI.out;rw [h] at this;simp at this))
     injection e with e
     injection e with e1 e2
     subst e1 e2
     have:=hc i _ (bv_get X i HI.out)
     rwa [Nat.zero_add] at this
    have z1:w4.frozen? ⟨g,i,none⟩ = false:=by
     obtain ⟨g',e,h⟩:=own_at HOW.out (by have:=HXL.out;omega)
     injection e with e
     injection e with e
     rw [e];exact h i
    obtain ⟨xi,hxi⟩:∃ xi,xi = X[i]'HI.out:=⟨_,rfl⟩
    rw [← hxi] at e1
    have HXI:=Lib.hid hxi
    clear hxi
    by_cases ht:xi = t
    ·have b1:((xi.toNat:Int) == (t.toNat:Int)) = true:=by rw [ht];simp
     go_wp2_with fail
     go_ret
     exact ⟨rfl,HFW.out⟩
    ·have b1:((xi.toNat:Int) == (t.toNat:Int)) = false:=by
      rw [beq_eq_false_iff_ne]
      exact fun h=>ht (UInt8.toNat_inj.1 (by omega))
     have HT:=Lib.hid ht
     clear ht
     go_upto_region 17 with fail
     have fs:Fr (oneB g) w4 (w4.setCell ⟨g,i,none⟩ (.int .u8 (t.toNat:Int))):=(Fr.refl (oneB g) w4).setCell (p:=⟨g,i,none⟩) (fun _=>rfl) _
     have HFY:=Lib.hid (HFW.out.step1 fs (by have:=HGW.out;have:=HF1.out.size;omega))
     have CR2:=Lib.hid (show Calls Try.prog 8 #[.slice (some ⟨g,0,none⟩) X.length c1,.nilFunc] (w4.setCell ⟨g,i,none⟩ (.int .u8 (t.toNat:Int))) (fun e w'=>e = .returned (.tuple #[.pointer none,.int .i64 20]) ∧ Fr noB (w4.setCell ⟨g,i,none⟩ (.int .u8 (t.toNat:Int))) w') from by
      have hs5:=Sl.setB (Sl.own HOW.out) i HI.out t
      rw [Nat.zero_add] at hs5
      refine (pkRead_any _ (some ⟨g,0,none⟩) X.length c1 (X.set i t) (List.length_set ..) (by rw [List.length_set];exact HC1.out) hs5 (by rw [List.length_set];have:=HXM.out;omega)).mono ?_
      rw [readF_unfit (turn_unfit HI.out (by rw [HX2.out];exact writeF_fit xs) (by rw [← HXI.out];exact HT.out))]
      rintro e w' ⟨hf,⟨n,hn,rfl⟩ | ⟨es,P,hn,_⟩⟩
      ·have hn:=Except.error.inj hn
       subst hn
       exact ⟨rfl,hf⟩
      ·cases hn)
     clear e1 z1 fs
     go_wp2_with (go_at_call 8;refine CR2.out.mono ?_;rintro e w8 ⟨rfl,hf8⟩;have HF8:=Lib.hid hf8;clear hf8)
     go_ret
     exact ⟨rfl,HFY.out.step0 HF8.out⟩
  ·have HCL:=Lib.hid hcl
   clear hcl HQ CW2
   have CC:=Lib.hid (show Calls Try.prog 7 #[.slice A rs.length c] w2 (fun e w'=>e = .returned (.bool true) ∧ Fr noB w2 w') from by
    refine (clash_any w2 A c _ rs xs rfl (HS.out.fr0 HF2.out) (by have:=HSM.out.2;omega) (HXB.out.fr0 HFA.out)).mono ?_
    rintro e w' ⟨b,rfl,hf,hb⟩
    cases b with
    | true=>exact ⟨rfl,hf⟩
    | false=>exact absurd (hb rfl) HCL.out)
   go_wp2_with (go_at_call 7;refine CC.out.mono ?_;rintro e w3 ⟨rfl,hf3⟩;have HF3:=Lib.hid hf3;clear hf3)
   go_ret
   exact ⟨rfl,HF2.out.step0 HF3.out⟩
end Go.Proofs.Ytahllkifmmjbdaa
namespace Go.Proofs.Ytahllkifmmjbdaa
open Go.ChangeShapes Go.WideShapes Go.ChangeAt Go.RowKit Go.Deep
theorem hasMx {W:World} (h:W.ShapedOpen Try.prog):∃ m:Int,W.cell? ⟨0,0,none⟩ = some (.int .i64 m) ∧ 0 < W.heap.size:=by
 obtain ⟨m,hm⟩:=cell_of_shapedOpen_int (P:=Try.prog) (g:=0) (t:=3) (zero:=#[.int .i64 0]) (k:=.i64) h (of_decide_eq_true (by kernel_rfl)) (by kernel_rfl) rfl (by kernel_rfl) (by kernel_rfl) Try.underlying3
 exact ⟨m,hm,World.block_lt_of_cell? _ _ hm⟩
section
variable {H:Type} {enc:TypeId × Value → H} {W:World}
theorem td_bys {fuel:Nat} {cs:List Value} {x:DataW H × List MemPlace} (h:Td enc W fuel 25 cs x):∃ r:SlW,cs = codB.cs r ∧ ((∃ l:List UInt8,l.length = r.n ∧ r.n ≤ r.c ∧ Sl W r.A (bv l) ∧ (r.A = none → r.c = 0)) ∧ r.n ≤ 140737488355328):=by
 have hopen:=open_slice Try.underlying25 h.1
 obtain ⟨A,l,c,e,h1,h2,h3,_⟩:=td_sl codBF (R:=fun _=>True) Try.underlying25 (by kernel_rfl) (of_decide_eq_true (by kernel_rfl)) (fun n cs x h=>td_u8 h) h
 rw [row_B] at h1
 refine ⟨⟨A,l.length,c⟩,e,⟨l,rfl,h3,h1,?_⟩,h2⟩
 rintro rfl
 rcases hopen with ⟨hcs,_⟩ | ⟨a,n,c',m,k,D,Pl,hcs,_⟩
 ·rw [e] at hcs
  simp at hcs
  exact hcs.2
 ·rw [e] at hcs
  simp at hcs
set_option maxRecDepth 100000 in
theorem open_bytess {base:Nat} {v:Value} {d:DataW H} {p:List MemPlace}
  (hv:Value.okWide Try.prog W .any base 22 v) (h:DataW.Trod enc Try.prog W 0 (fun _=>true) true 22 v d p) (hw:∀ n ∈ d.weights Try.prog 22,n ≤ reachBytes) :
  ∃ (A:Option Addr) (rs:List SlW) (c:Nat),v = .slice A rs.length c ∧ Sl W A (codB.row rs) ∧ rs.length ≤ 140737488355328 ∧ rs.length ≤ c ∧ (∀ r ∈ rs,r.n ≤ 140737488355328) ∧ ∃ xs,BysW W rs xs:=by
 obtain ⟨a0,len,cap,rfl⟩:=okWide_slice Try.underlying22 hv
 obtain ⟨fuel,hf⟩:=h
 obtain ⟨A,rs,c,e,h1,h2,h3,h4⟩:=td_sl codB (R:=fun r=>(∃ l:List UInt8,l.length = r.n ∧ r.n ≤ r.c ∧ Sl W r.A (bv l) ∧ (r.A = none → r.c = 0)) ∧ r.n ≤ 140737488355328) Try.underlying22 (by kernel_rfl) (of_decide_eq_true (by kernel_rfl)) (fun n cs x h=>td_bys h) (x:=(d,p)) ⟨hf,hw⟩
 obtain ⟨xs,h5,h6⟩:=list_R (R:=fun (r:SlW) (l:List UInt8)=>l.length = r.n ∧ r.n ≤ r.c ∧ Sl W r.A (bv l) ∧ (r.A = none → r.c = 0)) (fun i hi=>(h4 i hi).1)
 refine ⟨A,rs,c,?_,h1,h2,h3,fun r hr=>?_,xs,h5,fun i h7 h8=>h6 i h7 h8⟩
 ·simpa [Value.cells] using e
 ·obtain ⟨i,hi,rfl⟩:=List.getElem_of_mem hr
  exact (h4 i hi).2
end
end Go.Proofs.Ytahllkifmmjbdaa
