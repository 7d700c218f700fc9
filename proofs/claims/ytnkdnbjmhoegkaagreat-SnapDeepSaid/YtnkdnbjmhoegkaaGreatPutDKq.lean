/- Contract: stamp.Put. (ex_ldS_at) Contracts: obj.PutBlob, obj.PutLabel. (ex_ldS_at) Contract: obj.PutChange. Contract: obj.PutDir. (ex_ldS_at) -/
import Derived.Test.YtnkdnbjmhoegkaaGreatFrameOKq
import Derived.Test.YtnkdnbjmhoegkaaGreatSnpPKq
set_option linter.unusedVariables false
set_option linter.unusedSimpArgs false
namespace Go.Proofs.YtnkdnbjmhoegkaaGreat
open Go.RowKit
theorem opB_len {o:Opn} (h:goodOp o = true):(opB o).length ≤ 4000:=by
 have hg:=h
 simp only [goodOp,Bool.and_eq_true] at h
 obtain ⟨⟨h1,h2⟩,h3⟩:=h
 have a1:=stB_len (okSt_of h1)
 have a2:=stB_len (okSt_of h2)
 unfold opB
 rw [if_pos hg]
 by_cases hk:o.Kind = 1
 ·rw [if_pos hk] at h3
  simp only [moveOk,Bool.and_eq_true,decide_eq_true_eq,Bool.or_eq_true] at h3
  obtain ⟨⟨⟨⟨h4,h5⟩,h6⟩,h7⟩,h8⟩:=h3
  have hp:okSt o.Parent:=by
   rcases h5 with h5 | h5
   ·exact okSt_of h5
   ·simp only [fixedS,Bool.and_eq_true,Bool.or_eq_true,decide_eq_true_eq] at h5
    exact ⟨by omega,by omega,by omega,by omega⟩
  have a3:=stB_len hp
  have a4:=nameOk_le h6
  rw [if_pos hk]
  have a5:=numB_length o.Kind.toNat (by omega)
  have a6:=numB_length o.Name.length (by omega)
  simp only [List.length_append,txB]
  omega
 ·rw [if_neg hk] at h3
  by_cases hk2:o.Kind = 2
  ·rw [if_pos hk2] at h3
   simp only [editOk,Bool.and_eq_true,decide_eq_true_eq,List.all_eq_true] at h3
   obtain ⟨⟨⟨⟨⟨⟨h4,h5⟩,h6⟩,h7⟩,h8⟩,h9⟩,h10⟩:=h3
   rw [if_neg hk]
   have a5:=numB_length o.Kind.toNat (by omega)
   have a6:=numB_length o.Over.length (by omega)
   have a7:∀ l:List St,(∀ s ∈ l,rightS s = true) → (l.flatMap stB).length ≤ l.length * 20:=by
    intro l
    induction l with
    | nil=>simp
    | cons x l ih =>
     intro hh
     have:=ih (fun s hs=>hh s (by simp [hs]))
     have h0:=stB_len (okSt_of (hh x (by simp)))
     simp only [List.flatMap_cons,List.length_append,List.length_cons]
     omega
   have a8:=a7 o.Over (fun s hs=>(h9 s hs).1)
   have a9:=o.Data.2
   simp only [List.length_append]
   omega
  ·rw [if_neg hk2] at h3;cases h3
end Go.Proofs.YtnkdnbjmhoegkaaGreat
namespace Go.Proofs.YtnkdnbjmhoegkaaGreat
open Go.RowKit
theorem own_lit1 (w:World) (b:UInt8) (k:Int) (hk:(b.toNat:Int) = k):(w.alloc (.cells #[.int .u8 k] 5)).ownsRow w.heap.size 5 1 (.slice (some ⟨w.heap.size,0,none⟩) 1 1) 1 (bv [b]):=by
 subst hk
 have:=World.ownsRow_lit (base:=w.heap.size) (e:=5) (size:=1) w #[.int .u8 (b.toNat:Int)] 1 (Nat.le_refl _) (by simp [maxLen]) rfl
 simpa [bv,u8v] using this
theorem own_cap {w:World} {base:Nat} {e:TypeId} {size n c:Nat} {A:Option Addr} {xs:List Value} (h:w.ownsRow base e size (.slice A n c) n xs):n ≤ c:=by
 obtain ⟨A',c',ev,hcc,_⟩:=own_form h
 injection ev with e1 e2 e3
 omega
def PtTo (w:World) (o:Option (List UInt8)) (err:Int) (e:Ending) (w':World):Prop :=
 ∃ A c,e = .returned (.tuple #[.slice A (o.getD []).length c,.int .i64 (if o.isSome then 0 else err)]) ∧ w'.ownsRow w.heap.size 5 1 (.slice A (o.getD []).length c) (o.getD []).length (bv (o.getD [])) ∧ Fr noB w w' ∧ (o.getD []).length ≤ c
end Go.Proofs.YtnkdnbjmhoegkaaGreat
namespace Go.Proofs.YtnkdnbjmhoegkaaGreat
open Go.RowKit
def WrR (w W7:World) (l0:List UInt8) (n m:Nat) (f:Nat → List UInt8) (gk:Nat) (v iv:Value) (wr:World):Prop :=
 ∃ (k:Nat) (A:Option Addr) (c:Nat) (l:List UInt8),v = .slice A l.length c ∧ iv = .int .i64 (k:Int) ∧ gk = n - k ∧ k ≤ n ∧ l = l0 ++ f k ∧ l.length ≤ l0.length + k * m ∧ wr.ownsRow w.heap.size 5 1 (.slice A l.length c) l.length (bv l) ∧ Fr noB W7 wr
theorem flat_succ {α:Type} (f:α → List UInt8) (l:List α) (k:Nat) (h:k < l.length):(l.take (k + 1)).flatMap f = (l.take k).flatMap f ++ f l[k]:=by
 rw [List.take_succ_eq_append_getElem h,List.flatMap_append];simp
end Go.Proofs.YtnkdnbjmhoegkaaGreat
namespace Go.Proofs.YtnkdnbjmhoegkaaGreat
open Go.RowKit
def itH (x:It):List UInt8:=stB x.Node ++ stB x.At ++ txB x.Name ++ x.Sub.1 ++ numB x.Heads.length
theorem itB_eq (x:It):itB x = itH x ++ x.Heads.flatMap hdB:=rfl
theorem hdB_len {h:Hd} (hh:rightS h.At = true):(hdB h).length ≤ 52:=by
 have:=stB_len (okSt_of hh)
 unfold hdB
 rw [List.length_append,h.Data.2];omega
theorem own_frB {w w':World} {base n c:Nat} {A:Option Addr} {xs:List Value} (h:w.ownsRow base 5 1 (.slice A n c) n xs) (f:Fr noB w w'):w'.ownsRow base 5 1 (.slice A n c) n xs:=own_new0 h f
theorem Fr.own {w0 w w':World} {A:Option Addr} {n c:Nat} {xs:List Value} (f:Fr noB w0 w) (h:w.ownsRow w0.heap.size 5 1 (.slice A n c) n xs) (hg:w.grownBy w' (A.map (·.block))):Fr noB w0 w' :=
 f.step (Fr.ofGrown (M:=fun b=>A.map (·.block) = some b) hg (fun g hg=>hg)) (fun b hb=>.inl (own_lt h b hb).1)
theorem fT {w:World} {N:Nat} {r:ItW} (hx:codT.rd w N 0 = some r):codS.rd w N 0 = some r.Node ∧ codS.rd w N 2 = some r.At ∧ w.cell? ⟨N,4,none⟩ = some (.string (str r.Name)) ∧ rdI w N 5 = some r.Sub ∧ w.cell? ⟨N,37,none⟩ = some (.slice r.A r.n r.c):=⟨(itAt hx).node,(itAt hx).At,(itAt hx).name,(itAt hx).sub,(itAt hx).heads⟩
theorem fH {w:World} {N:Nat} {q:Hd} (hx:codH.rd w N 0 = some q):codS.rd w N 0 = some q.At ∧ rdI w N 2 = some q.Data:=⟨(hdAt hx).At,(hdAt hx).data⟩
def putDr (l:List It):Option (List UInt8):=if rightDr l = true then some (drB l) else none
set_option maxRecDepth 100000 in
set_option maxHeartbeats 4000000 in
theorem putDir_any (w:World) (A:Option Addr) (c n:Nat) (rs:List ItW) (xs:List It) (hn:rs.length = n) (hs:Sl w A (codT.row rs)) (hb:rs.length ≤ 140737488355328) (h:ItsIn w rs xs):Calls Tryz.prog 37 #[.slice A n c] w (PtTo w (putDr xs) 1):=by
 subst hn
 have hRd:=Lib.hid (rightDir_any w A c rs.length rs xs rfl hs hb h)
 by_cases hr:rightDr xs = true
 ·have E1:=Lib.hid (show putDr xs = some (drB xs) by unfold putDr;rw [if_pos hr])
  have HR:=Lib.hid hr
  have hr2:=hr
  simp only [rightDr,Bool.and_eq_true,decide_eq_true_eq,List.all_eq_true] at hr2
  obtain ⟨⟨z1,z2⟩,z3⟩:=hr2
  have hrl:rs.length ≤ 1000:=by have:=h.len;omega
  have HLN:=Lib.hid h.len
  have hdB0:=Lib.hid (show drB xs = ([2] ++ numB rs.length) ++ xs.flatMap itB by unfold drB;rw [h.len];simp)
  clear hr z1 z3
  go_enter Tryz.func37,Tryz.ntmps37
  go_upto_region 3 with (go_at_call 49;refine hRd.out.mono ?_;rintro e w1 ⟨rfl,f1⟩;rw [HR.out])
  have fn:Fr noB w1 (w1.alloc (.cells #[.int .u8 2] 5)):=(Fr.refl noB w1).alloc _
  have ho1:=own_lit1 w1 2 2 rfl
  go_upto_region 4 with (go_at_call 50;refine (enum_z _ _ 1 [2] 1 rfl (Sl.own ho1) (by simp) (rs.length:Int) rs.length rfl (by omega)).mono ?_;rintro e w2 ⟨A2,c2,rfl,ho2,hf2⟩;obtain ⟨l2,hl2⟩:∃ x:List UInt8,x = [2] ++ numB rs.length:=⟨_,rfl⟩;rw [← hl2] at ho2 ⊢;have HL2:=Lib.hid hl2;clear hl2)
  have b2:l2.length ≤ 10:=by have:=numB_length rs.length (by omega);rw [HL2.out,List.length_append];simp;omega
  have g2:=(f1.step0 fn).step0 hf2
  have ho2':=own_base ho2 (f1.step0 fn).size
  clear ho1 ho2 fn
  go_wp2_with fail
  go_loopg [4,18] rs.length (fun gk v iv wr=>WrR w w l2 rs.length 60000 (fun k=>(xs.take k).flatMap itB) gk v iv wr)
  case atStart=>exact ⟨0,A2,c2,l2,rfl,rfl,by omega,by omega,by simp,by omega,ho2',g2⟩
  case round =>
   obtain ⟨k,A8,c8,l8,rfl,rfl,rfl,hk,hl8,hb8,ho8,hf8⟩:=hrel
   have HL8:=Lib.hid hl8
   clear hl8
   by_cases hlt:k < rs.length
   ·have i1:(k:Int) < (rs.length:Int):=by omega
    have i0:(0:Int) ≤ (k:Int):=by omega
    have hlt2:k < xs.length:=by rw [← HLN.out];exact hlt
    obtain ⟨g,off,rfl,hgg⟩:=hs.adC (by omega)
    have e1:codT.rd wr g (off + k * 38) = some rs[k]:=(hs.fr0 hf8).rd k hlt
    have hin:ItIn w rs[k] xs[k]:=h.at_ k hlt hlt2
    have hri:=z2 _ (List.getElem_mem hlt2)
    have ht:=flat_succ itB xs k hlt2
    generalize rs[k] = r at e1 hin
    generalize xs[k] = x at hin hri ht
    have HT:=Lib.hid ht
    simp only [rightIt,Bool.and_eq_true,decide_eq_true_eq,List.all_eq_true] at hri
    obtain ⟨⟨⟨⟨⟨⟨y1,y2⟩,y3⟩,y4⟩,y5⟩,y6⟩,y7⟩:=hri
    have en:x.Node = r.Node:=by rw [hin.eq];rfl
    have ea:x.At = r.At:=by rw [hin.eq];rfl
    have em:x.Name = r.Name:=by rw [hin.eq];rfl
    have es:x.Sub = r.Sub:=by rw [hin.eq];rfl
    have hHd:=hin.len
    have hsl:=hin.sl
    have hih:itH x = (((stB r.Node ++ stB r.At) ++ txB r.Name) ++ r.Sub.1) ++ numB r.n:=by unfold itH;rw [en,ea,em,es,hHd]
    have hib:itB x = itH x ++ x.Heads.flatMap hdB:=itB_eq x
    generalize x.Heads = hd at y5 y6 hHd hsl hib
    have hh6:∀ h ∈ hd,rightS h.At = true:=fun h hh=>(y6 h hh).1.1
    rw [en] at y1
    rw [ea] at y2
    rw [em] at y4
    have o1:=okSt_of y1
    have o2:=okSt_of y2
    have a1:=stB_len o1
    have a2:=stB_len o2
    have hnm:=nameOk_le y4
    have t1:(txB r.Name).length ≤ 80:=by have:=numB_length r.Name.length (by omega);unfold txB;rw [List.length_append];omega
    have hrn:r.n ≤ 1000:=by omega
    have HIH:=Lib.hid hih
    have HIB:=Lib.hid hib
    have HHD:=Lib.hid hHd
    have HLT:=Lib.hid hlt
    have fA:Fr noB wr (wr.alloc (codT.o r)):=(Fr.refl noB wr).alloc _
    have hx:codT.rd (wr.alloc (codT.o r)) wr.heap.size 0 = some r:=Cod.rd_new' wr r
    have nA:∀ g,A8.map (·.block) = some g → g ≠ wr.heap.size:=fun g hg=>by have:=(own_lt ho8 g hg).2;omega
    have b8:l8.length ≤ 70000000:=by omega
    have HB8:=Lib.hid hb8
    clear y1 y2 y3 y4 y5 y6 y7 en ea em es hih hib ht hlt hlt2 hHd hin hb8
    go_upto_region 7 with fail
    replace hf8:=hf8.step0 fA
    replace ho8:=own_frB ho8 fA
    clear fA e1
    generalize wr.alloc (codT.o r) = W1 at hx ho8 hf8 ⊢
    generalize wr.heap.size = N at hx nA ⊢
    have fd:=(Fr.refl noB W1).drew
    replace hf8:=hf8.step0 fd
    replace ho8:=own_frB ho8 fd
    replace hx:=Cod.rd_fr0 hx fd
    have hF0:codS.rd W1.drew N 0 = some r.Node ∧ codS.rd W1.drew N 2 = some r.At ∧ W1.drew.cell? ⟨N,4,none⟩ = some (.string (str r.Name)) ∧ rdI W1.drew N 5 = some r.Sub ∧ W1.drew.cell? ⟨N,37,none⟩ = some (.slice r.A r.n r.c):=⟨(itAt hx).node,(itAt hx).At,(itAt hx).name,(itAt hx).sub,(itAt hx).heads⟩
    refine wp_region_M 18 19 [⟨4194304,16,0⟩,⟨8388608,64,0⟩,⟨16777216,8388608,2⟩,⟨33554432,16777216,4⟩,⟨67108864,64,0⟩,⟨134217728,67108864,16⟩,⟨268435456,167772160,40⟩,⟨536870912,64,0⟩,⟨1073741824,536870912,128⟩,⟨2147483648,1342177280,320⟩,⟨4294967296,64,0⟩,⟨8589934592,4294967296,1024⟩,⟨17179869184,10737418240,2560⟩,⟨34359738368,64,0⟩,⟨68719476736,34359738368,8192⟩,⟨137438953472,68719476736,16384⟩,⟨274877906944,154618822656,36864⟩,⟨549755813888,274882101248,65537⟩,⟨16,549755813888,262143⟩] [(true,0),(true,1),(true,2),(true,4),(true,5),(true,7),(true,8),(true,10),(true,11),(true,13),(true,14),(true,15),(false,3),(false,6),(false,9),(false,12),(false,16),(false,17)] (fun w'=>codS.rd w' N 0 = some r.Node ∧ codS.rd w' N 2 = some r.At ∧ w'.cell? ⟨N,4,none⟩ = some (.string (str r.Name)) ∧ rdI w' N 5 = some r.Sub ∧ w'.cell? ⟨N,37,none⟩ = some (.slice r.A r.n r.c)) (by kernel_rfl) rfl (by kernel_rfl) (by kernel_rfl) (by kernel_rfl) hF0 (fun hA hF=>?_)
    clear hF0
    iterate 12
     refine wpAnyS_take (v:=?_) hA rfl (fun _ _ _ h=>h) (Or.inl ⟨by rfl,?_⟩) hF (fun hA=>?_)
     rotate_left
     ·intro wS hSw;(try dsimp only at hSw);obtain ⟨s1,s2,s3,s4,s5⟩:=hSw;first | (apply Eq.trans;apply ex_ld_id;exact rfl;exact rfl;assumption;with_reducible rfl) | (apply Eq.trans;apply ex_ldS_at;exact rfl;exact rfl;assumption;with_reducible rfl) | (go_simp;try with_reducible rfl)
     try simp only [sA1,sA2,sA3,Act.put,sA4,sA5,sA6]
    refine wpAnyS_one hA rfl (fun K' hK=>?_)
    go_simp
    go_at_call 53
    refine (oat_any W1.drew none 0 0 [] rfl (Sl.nil _ _) (by simp) r.Node o1).mono ?_
    rintro e w10 ⟨A10,c10,rfl,ho10,hf10⟩
    obtain ⟨l10,hl10⟩:∃ x:List UInt8,x = [] ++ stB r.Node:=⟨_,rfl⟩
    rw [← hl10] at ho10 ⊢
    have b10:l10.length ≤ 20:=by rw [hl10];simpa using a1
    have HL10:=Lib.hid hl10
    clear hl10
    have g10:=(hf8).step0 hf10
    replace ho8:=own_frB ho8 hf10
    replace hx:=Cod.rd_fr0 hx hf10
    replace hF:=fT hx
    refine hK.out _ _ hF (fun hA=>?_)
    clear hK K'
    as_aux_lemma =>
    refine wpAnyS_one hA rfl (fun K' hK=>?_)
    go_simp
    go_at_call 53
    refine (oat_any w10 A10 c10 l10.length l10 rfl (Sl.own ho10) (by omega) r.At o2).mono ?_
    rintro e w11 ⟨A11,c11,rfl,ho11,hf11⟩
    obtain ⟨l11,hl11⟩:∃ x:List UInt8,x = l10 ++ stB r.At:=⟨_,rfl⟩
    rw [← hl11] at ho11 ⊢
    have b11:l11.length ≤ 40:=by rw [hl11];(rw [List.length_append];omega)
    have HL11:=Lib.hid hl11
    clear hl11
    have g11:=(g10).step0 hf11
    replace ho8:=own_frB ho8 hf11
    replace hx:=Cod.rd_fr0 hx hf11
    replace hF:=fT hx
    refine hK.out _ _ hF (fun hA=>?_)
    clear hK K'
    as_aux_lemma =>
    refine wpAnyS_one hA rfl (fun K' hK=>?_)
    go_simp
    go_at_call 52
    refine (etext_any w11 A11 c11 l11.length l11 rfl (Sl.own ho11) (by omega) r.Name (by omega)).mono ?_
    rintro e w12 ⟨A12,c12,rfl,ho12,hf12⟩
    obtain ⟨l12,hl12⟩:∃ x:List UInt8,x = l11 ++ txB r.Name:=⟨_,rfl⟩
    rw [← hl12] at ho12 ⊢
    have b12:l12.length ≤ 120:=by rw [hl12];(rw [List.length_append];omega)
    have HL12:=Lib.hid hl12
    clear hl12
    have g12:=(g11).step0 hf12
    replace ho8:=own_frB ho8 hf12
    replace hx:=Cod.rd_fr0 hx hf12
    replace hF:=fT hx
    refine hK.out _ _ hF (fun hA=>?_)
    clear hK K'
    as_aux_lemma =>
    refine wpAnyS_one hA rfl (fun K' hK=>?_)
    go_simp
    go_at_call 51
    refine (eid_any w12 A12 c12 l12.length l12 rfl (Sl.own ho12) (by omega) r.Sub).mono ?_
    rintro e w13 ⟨A13,c13,rfl,ho13,hf13⟩
    obtain ⟨l13,hl13⟩:∃ x:List UInt8,x = l12 ++ r.Sub.1:=⟨_,rfl⟩
    rw [← hl13] at ho13 ⊢
    have b13:l13.length ≤ 152:=by rw [hl13];(rw [List.length_append,r.Sub.2];omega)
    have HL13:=Lib.hid hl13
    clear hl13
    have g13:=(g12).step0 hf13
    replace ho8:=own_frB ho8 hf13
    replace hx:=Cod.rd_fr0 hx hf13
    replace hF:=fT hx
    refine hK.out _ _ hF (fun hA=>?_)
    clear hK K'
    as_aux_lemma =>
    refine wpAnyS_one hA rfl (fun K' hK=>?_)
    go_simp
    go_at_call 50
    refine (enum_z w13 A13 c13 l13 l13.length rfl (Sl.own ho13) (by omega) (r.n:Int) r.n rfl (by omega)).mono ?_
    rintro e w14 ⟨A14,c14,rfl,ho14,hf14⟩
    obtain ⟨l14,hl14⟩:∃ x:List UInt8,x = l13 ++ numB r.n:=⟨_,rfl⟩
    rw [← hl14] at ho14 ⊢
    have b14:l14.length ≤ 162:=by rw [hl14];(have:=numB_length r.n (by omega);rw [List.length_append];omega)
    have HL14:=Lib.hid hl14
    clear hl14
    have g14:=(g13).step0 hf14
    replace ho8:=own_frB ho8 hf14
    replace hx:=Cod.rd_fr0 hx hf14
    replace hF:=fT hx
    refine hK.out _ _ hF (fun hA=>?_)
    clear hK K'
    as_aux_lemma =>
    refine wpAnyS_one hA rfl (fun K' hK=>?_)
    refine step_appC w _ rfl _ _ rfl A8 l8.length c8 l8 rfl rfl ho8 A14 l14.length c14 l14 rfl (Sl.own ho14) rfl (by omega) g14.size ?_
    intro A15 c15 w15 hc15 hm15 ho15 hg15 hA15
    have f15:Fr (fun b=>A8.map (·.block) = some b) w14 w15:=Fr.ofGrown hg15 (fun g hg=>hg)
    have g15:=g14.own ho8 hg15
    replace hx:=Cod.rd_fr hx f15 (fun e=>nA N e rfl)
    obtain ⟨l15,hl15⟩:∃ z:List UInt8,z = l8 ++ l14:=⟨_,rfl⟩
    rw [← hl15] at ho15 ⊢
    have b15:l15.length ≤ l8.length + 162:=by rw [hl15,List.length_append];omega
    have HL15:=Lib.hid hl15
    clear hl15
    replace hF:=fT hx
    refine hK.out _ _ hF (fun hA=>?_)
    clear hK K'
    as_aux_lemma =>
    refine wpAnyS_end hA rfl ?_
    simp only [List.drop_succ_cons,List.drop_zero]
    clear hF
    have k37:=(itAt hx).heads
    have HL15':=Lib.hid (show l15 = l8 ++ itH x by rw [HL15.out,HL14.out,HL13.out,HL12.out,HL11.out,HL10.out,HIH.out];simp [List.append_assoc])
    rw [← HHD.out] at k37
    clear hx ho8 ho10 ho11 ho12 ho13 ho14 hg15 hA15 f15
    have hsl0:=hsl
    generalize r.A = RA at k37 hsl0 hsl ⊢
    go_wp2_with fail
    go_loopg [4,43] hd.length (fun gk v iv wr=>WrR w w l15 hd.length 52 (fun k=>(hd.take k).flatMap hdB) gk v iv wr)
    case atStart=>exact ⟨0,A15,c15,l15,by first | rfl | simp,rfl,by omega,by omega,by simp,by omega,ho15,g15⟩
    case round =>
     obtain ⟨j,A20,c20,l20,rfl,rfl,rfl,hj,hl20,hb20,ho20,hf20⟩:=hrel
     have HL20:=Lib.hid hl20
     clear hl20
     have hn1000:hd.length ≤ 1000:=by rw [HHD.out];exact hrn
     by_cases hjl:j < hd.length
     ·have i1:(j:Int) < (hd.length:Int):=by omega
      have i0:(0:Int) ≤ (j:Int):=by omega
      obtain ⟨g2,off2,rfl,hgg2⟩:=hsl.adC (by omega)
      have e1:codH.rd wr g2 (off2 + j * 34) = some hd[j]:=(hsl.fr0 hf20).rd j hjl
      have hh:=hh6 _ (List.getElem_mem hjl)
      have ht:=flat_succ hdB hd j hjl
      generalize hd[j] = q at e1 hh ht
      have HT2:=Lib.hid ht
      have oq:=okSt_of hh
      have aq:=stB_len oq
      have fA:Fr noB wr (wr.alloc (codH.o q)):=(Fr.refl noB wr).alloc _
      have hx:codH.rd (wr.alloc (codH.o q)) wr.heap.size 0 = some q:=Cod.rd_new' wr q
      have nA2:∀ g,A20.map (·.block) = some g → g ≠ wr.heap.size:=fun g hg=>by have:=(own_lt ho20 g hg).2;omega
      have b20:l20.length ≤ 80000000:=by omega
      have HJL:=Lib.hid hjl
      clear ht hjl hh
      go_upto_region 11 with fail
      replace hf20:=hf20.step0 fA
      replace ho20:=own_frB ho20 fA
      clear fA e1
      generalize wr.alloc (codH.o q) = W2 at hx ho20 hf20 ⊢
      generalize wr.heap.size = N2 at hx nA2 ⊢
      have fd2:=(Fr.refl noB W2).drew
      replace hf20:=hf20.step0 fd2
      replace ho20:=own_frB ho20 fd2
      replace hx:=Cod.rd_fr0 hx fd2
      have hF0:codS.rd W2.drew N2 0 = some q.At ∧ rdI W2.drew N2 2 = some q.Data:=⟨(hdAt hx).At,(hdAt hx).data⟩
      refine wp_region_M 8 9 [⟨140737488355328,16,0⟩,⟨281474976710656,256,0⟩,⟨562949953421312,281474976710656,2⟩,⟨1125899906842624,562949953421312,4⟩,⟨2251799813685248,256,0⟩,⟨4503599627370496,2251799813685248,16⟩,⟨9007199254740992,5629499534213120,40⟩,⟨18014398509481984,9147936743096320,65⟩,⟨16,18014398509481984,255⟩] [(true,0),(true,1),(true,2),(true,4),(true,5),(false,3),(false,6),(false,7)] (fun w'=>codS.rd w' N2 0 = some q.At ∧ rdI w' N2 2 = some q.Data) (by kernel_rfl) rfl (by kernel_rfl) (by kernel_rfl) (by kernel_rfl) hF0 (fun hA hF=>?_)
      clear hF0
      iterate 5
       refine wpAnyS_take (v:=?_) hA rfl (fun _ _ _ h=>h) (Or.inl ⟨by rfl,?_⟩) hF (fun hA=>?_)
       rotate_left
       ·intro wS hSw;(try dsimp only at hSw);obtain ⟨s1,s2⟩:=hSw;first | (apply Eq.trans;apply ex_ld_id;exact rfl;exact rfl;assumption;with_reducible rfl) | (apply Eq.trans;apply ex_ldS_at;exact rfl;exact rfl;assumption;with_reducible rfl) | (go_simp;try with_reducible rfl)
       try simp only [sA1,sA2,sA3,Act.put,sA4,sA5,sA6]
      refine wpAnyS_one hA rfl (fun K' hK=>?_)
      go_simp
      go_at_call 53
      refine (oat_any W2.drew none 0 0 [] rfl (Sl.nil _ _) (by simp) q.At oq).mono ?_
      rintro e w21 ⟨A21,c21,rfl,ho21,hf21⟩
      obtain ⟨l21,hl21⟩:∃ x:List UInt8,x = [] ++ stB q.At:=⟨_,rfl⟩
      rw [← hl21] at ho21 ⊢
      have b21:l21.length ≤ 20:=by rw [hl21];simpa using aq
      have HL21:=Lib.hid hl21
      clear hl21
      have g21:=hf20.step0 hf21
      replace ho20:=own_frB ho20 hf21
      replace hx:=Cod.rd_fr0 hx hf21
      replace hF:=fH hx
      refine hK.out _ _ hF (fun hA=>?_)
      clear hK K'
      as_aux_lemma =>
      refine wpAnyS_one hA rfl (fun K' hK=>?_)
      go_simp
      go_at_call 51
      refine (eid_any w21 A21 c21 l21.length l21 rfl (Sl.own ho21) (by omega) q.Data).mono ?_
      rintro e w22 ⟨A22,c22,rfl,ho22,hf22⟩
      obtain ⟨l22,hl22⟩:∃ x:List UInt8,x = l21 ++ q.Data.1:=⟨_,rfl⟩
      rw [← hl22] at ho22 ⊢
      have b22:l22.length ≤ 52:=by rw [hl22,List.length_append,q.Data.2];omega
      have HL22:=Lib.hid hl22
      clear hl22
      have g22:=g21.step0 hf22
      replace ho20:=own_frB ho20 hf22
      replace hx:=Cod.rd_fr0 hx hf22
      replace hF:=fH hx
      refine hK.out _ _ hF (fun hA=>?_)
      clear hK K'
      as_aux_lemma =>
      refine wpAnyS_one hA rfl (fun K' hK=>?_)
      refine step_appC w _ rfl _ _ rfl A20 l20.length c20 l20 rfl rfl ho20 A22 l22.length c22 l22 rfl (Sl.own ho22) rfl (by omega) g22.size ?_
      intro A23 c23 w23 hc23 hm23 ho23 hg23 hA23
      have f23:Fr (fun b=>A20.map (·.block) = some b) w22 w23:=Fr.ofGrown hg23 (fun g hg=>hg)
      have g23:=g22.own ho20 hg23
      replace hx:=Cod.rd_fr hx f23 (fun e=>nA2 N2 e rfl)
      obtain ⟨l23,hl23⟩:∃ z:List UInt8,z = l20 ++ l22:=⟨_,rfl⟩
      rw [← hl23] at ho23 ⊢
      have HL23:=Lib.hid hl23
      clear hl23
      replace hF:=fH hx
      refine hK.out _ _ hF (fun hA=>?_)
      clear hK K'
      as_aux_lemma =>
      refine wpAnyS_end hA rfl ?_
      simp only [List.drop_succ_cons,List.drop_zero]
      clear hF
      go_wp2_with fail
      have hjl:=HJL.out
      go_roundg (hd.length - (j + 1))
      case measure=>omega
      case rel =>
       exact ⟨j + 1,A23,c23,l23,rfl,by simp,rfl,by omega,by rw [HL23.out,HL20.out,HL22.out,HL21.out];simp only;rw [HT2.out];simp [hdB,List.append_assoc],by rw [HL23.out,List.length_append];omega,ho23,g23⟩
     ·have hjn:j = hd.length:=by omega
      subst hjn
      have i1:¬ (hd.length:Int) < (hd.length:Int):=by omega
      have HF:=Lib.hid (show l20 = l2 ++ (xs.take (k + 1)).flatMap itB by
       have h1:=HL20.out
       simp only [List.take_length] at h1
       rw [h1,HL15'.out,HL8.out]
       try simp only
       rw [HT.out,HIB.out]
       simp [List.append_assoc])
      have hlt:=HLT.out
      have b20:l20.length ≤ l2.length + (k + 1) * 60000:=by have:=HB8.out;omega
      clear hjl hn1000 hj
      go_wp2_with fail
      go_roundg (rs.length - (k + 1))
      case measure=>omega
      case rel =>
       exact ⟨k + 1,A20,c20,l20,by first | rfl | simp,by simp,rfl,by omega,HF.out,b20,ho20,hf20⟩
   ·have hkn:k = rs.length:=by omega
    subst hkn
    have i1:¬ (rs.length:Int) < (rs.length:Int):=by omega
    have HF:=Lib.hid (show l8 = drB xs by
     have h1:=HL8.out
     simp only [HLN.out,List.take_length] at h1
     rw [h1,hdB0.out,HL2.out])
    rw [HF.out] at ho8 ⊢
    have hcc:=own_cap ho8
    clear hlt
    go_wp2_with fail
    refine bodyPost_ret (results_tmp2 rfl _ _ _) rfl ?_
    unfold PtTo
    rw [E1.out]
    exact ⟨A8,c8,by first | rfl | simp,ho8,hf8,hcc⟩
 ·have hr':rightDr xs = false:=by simpa using hr
  have E1:=Lib.hid (show putDr xs = none by unfold putDr;rw [if_neg hr])
  have HR:=Lib.hid hr'
  clear hr hr' h hs
  go_enter Tryz.func37,Tryz.ntmps37
  go_wp2_with (go_at_call 49;refine hRd.out.mono ?_;rintro e w1 ⟨rfl,f1⟩;rw [HR.out])
  refine bodyPost_ret (results_tmp2 rfl _ _ _) rfl ?_
  unfold PtTo
  rw [E1.out]
  exact ⟨none,0,rfl,World.ownsRow_nil _ _ _ _,f1,Nat.le_refl _⟩
end Go.Proofs.YtnkdnbjmhoegkaaGreat
