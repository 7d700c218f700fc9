/- Contract: pack.Write (nothing outside). -/
import Derived.Test.YtahllkifmmjbdaaPkMKp
set_option linter.unusedVariables false
set_option linter.unusedSimpArgs false
namespace Go.Proofs.Ytahllkifmmjbdaa
open Go.RowKit Go.Maps Go.Sort
set_option maxRecDepth 100000
theorem beq_any (w:World) (A B:Option Addr) (n m c d:Nat) (l k:List UInt8) (hn:l.length = n) (hm:k.length = m) (hA:Sl w A (bv l)) (hB:Sl w B (bv k)) :
  Calls Try.prog 18 #[.slice A n c,.slice B m d] w (SameTo w (.bool (decide (l = k)))):=by
 have h:=Try.bytes_Equal_strs _ _ (str l) (str k) w (conv_str w A n c l hn hA) (conv_str w B m d k hm hB)
 rw [str_toList,str_toList,show (l == k) = decide (l = k) by by_cases h:l = k <;> simp [h]] at h
 exact h
theorem PosIn.fr0 {w w':World} {rs:List PeW} {xs:List PeP} (h:PosIn w rs xs) (f:Fr noB w w'):PosIn w' rs xs:=⟨h.len,fun i h1 h2=>(h.at_ i h1 h2).fr0 f⟩
theorem shortL_ch (b:List UInt8) (all:List PeP):∀ k,(shortL b all k).2 ≤ 8
 | 0=>Nat.zero_le _
 | k + 1=>by
  have ih:=shortL_ch b all k
  show (stepF b all (k + 1) (shortL b all k)).2 ≤ 8
  unfold stepF
  simp only
  split
  ·exact ih
  ·rename_i h
   split
   ·show _ + 1 ≤ 8
    omega
   ·exact ih
theorem Sl.mapF {w w':World} {r:Nat} {kv:List (ID × Value)} {A:Option Addr} {l:List UInt8} (hs:Sl w A (bv l)) (hm:mpI w r = some kv) (f:Fr (oneB r) w w'):Sl w' A (bv l):=by
 intro hx
 refine hs.keep (fun g off e hg=>f.block g hg fun h=>?_) f.size hx
 have h:g = r:=h
 obtain ⟨g',off',e',_,hc⟩:=hs hx
 rw [e] at e'
 injection e' with e'
 injection e' with e1 e2
 subst e1 e2
 have h0:0 < l.length:=by
  cases l with
  | nil=>exact absurd rfl hx
  | cons b l=>simp
 have:=hc 0 _ (bv_get l 0 h0)
 rw [h,mp_cell hm] at this
 cases this
theorem BsIn.mapF {w w':World} {r:Nat} {kv:List (ID × Value)} {rs:List SlW} {xs:List (List UInt8)} (h:BsIn w rs xs) (hm:mpI w r = some kv) (f:Fr (oneB r) w w'):BsIn w' rs xs :=
 ⟨h.len,fun i h1 h2=>⟨(h.at_ i h1 h2).len,(h.at_ i h1 h2).cap,(h.at_ i h1 h2).sl.mapF hm f,(h.at_ i h1 h2).bd⟩⟩
def MetIn (kv:List (ID × Value)) (rs:List SlW) (xs:List (List UInt8)) (i:Nat):Prop:=∀ id v,look kv id = some v → ∃ (k:Nat) (h:k < rs.length) (h':k < xs.length),k < i ∧ v = .slice rs[k].A rs[k].n rs[k].c ∧ nameH xs[k] = id
def WrTo (w:World) (xs:List (List UInt8)) (e:Ending) (w':World):Prop:=Fr noB w w' ∧
 ((∃ (A:Option Addr) (c:Nat),e = .returned (.tuple #[.slice A (writeF xs).length c,.int .i64 0]) ∧ OwnB w w' A c (writeF xs)) ∨
  (e = .returned (.tuple #[.slice none 0 0,.int .i64 60]) ∧ ∃ x ∈ xs,∃ y ∈ xs,x ≠ y ∧ nameH x = nameH y))
theorem look_putW {κ:Type} [DecidableEq κ] (kv:List (κ × Value)) (k q:κ) (v:Value):look (putL kv k v) q = if q = k then some v else look kv q:=by
 unfold putL
 split
 ·rename_i h
  unfold look at h ⊢
  induction kv with
  | nil=>simp at h
  | cons x kv ih =>
   rw [List.map_cons,List.find?_cons]
   by_cases hx:x.1 = k
   ·rw [if_pos hx]
    by_cases hq:q = k
    ·subst hq;simp
    ·have h1:¬ k = q:=fun e=>hq e.symm
     have h2:¬ x.1 = q:=fun e=>hq (by rw [← e];exact hx)
     simp only [h1,decide_false]
     rw [if_neg hq,List.find?_cons]
     simp only [h2,decide_false]
     by_cases hk:((kv.find? fun p=>decide (p.1 = k)).map (·.2)).isSome
     ·have:=ih hk
      rw [if_neg hq] at this;exact this
     ·have hn:(kv.map fun p=>if p.1 = k then (k,v) else p) = kv:=by
       conv=>rhs;rw [← List.map_id kv]
       refine List.map_congr_left fun p hp=>?_
       have hpk:p.1 ≠ k:=fun e=>hk (by
        have:(kv.find? fun p=>decide (p.1 = k)).isSome:=List.find?_isSome.2 ⟨p,hp,by simp [e]⟩
        cases hf:kv.find? fun p=>decide (p.1 = k) with
        | none=>rw [hf] at this;cases this
        | some y=>rfl)
       simp [hpk]
      rw [hn]
   ·rw [if_neg hx]
    have h':((kv.find? fun p=>decide (p.1 = k)).map (·.2)).isSome:=by
     rw [List.find?_cons] at h
     simpa [hx] using h
    have:=ih h'
    by_cases hxq:x.1 = q
    ·have hqk:q ≠ k:=fun e=>hx (hxq.trans e)
     rw [if_neg hqk,List.find?_cons]
     simp [hxq]
    ·simp only [hxq,decide_false]
     rw [this]
     split
     ·rfl
     ·rw [List.find?_cons];simp [hxq]
 ·rename_i h
  have hn:look kv k = none:=by cases hl:look kv k with | none=>rfl | some u=>rw [hl] at h;exact absurd rfl h
  unfold look at hn ⊢
  rw [Option.map_eq_none_iff] at hn
  rw [List.find?_append]
  by_cases hq:q = k
  ·subst hq;rw [hn];simp
  ·rw [if_neg hq]
   cases hf:kv.find? fun p=>decide (p.1 = q) with
   | some y=>simp
   | none=>have h1:¬ k = q:=fun e=>hq e.symm;simp [h1]
theorem look_putI (kv:List (ID × Value)) (k:ID) (v:Value) (id:ID):look (putL kv k v) id = if id = k then some v else look kv id:=look_putW kv k id v
set_option maxHeartbeats 16000000 in
theorem write_any (w:World) (A:Option Addr) (n c:Nat) (rs:List SlW) (xs:List (List UInt8)) (hn:rs.length = n) (hs:Sl w A (codB.row rs)) (hX:BsIn w rs xs) (hb:rs.length ≤ 65535) (hbd:∀ r ∈ rs,r.n ≤ 1048576) (hnil:∀ r ∈ rs,r.A = none → r.c = 0) (z:Int) (hz:w.cell? ⟨0,0,none⟩ = some (.int .i64 z)) (hw0:0 < w.heap.size) :
  Calls Try.prog 6 #[.slice A n c,.slice none 0 0] w (WrTo w xs):=by
 subst hn
 have HS:=Lib.hid hs
 have HX:=Lib.hid hX
 have HLX:=Lib.hid hX.len
 have HB:=Lib.hid hb
 have HD:=Lib.hid hbd
 have HNL:=Lib.hid hnil
 have HZ:=Lib.hid (And.intro hz hw0)
 have i1:¬ (65535:Int) < (rs.length:Int):=by omega
 have CC:=Lib.hid (contB_any w A _ c rs rfl hs (by omega) hbd)
 clear hs hX hb hbd hnil hz hw0
 go_enter Try.func6,Try.ntmps6
 obtain ⟨M,hM⟩:∃ M,M = w.heap.size:=⟨_,rfl⟩
 have HM1:=Lib.hid (show mpI (w.alloc (.map #[] 0)) M = some [] by rw [hM];exact mpI_new w)
 have HF1:=Lib.hid (show Fr noB w (w.alloc (.map #[] 0)) from (Fr.refl noB w).alloc _)
 have HMW:=Lib.hid (show w.heap.size ≤ M by omega)
 go_upto_region 6 with (go_at_call 15;refine CC.out.mono ?_;rintro e w1 ⟨rfl,h1⟩;replace h1:=h1.symm;subst h1)
 rw [← hM]
 clear hM
 generalize w.alloc (.map #[] 0) = w1 at HM1 HF1 ⊢
 have fb:Fr noB w1 (w1.alloc (.cells #[.slice A rs.length c,.slice none 0 0] 22)):=(Fr.refl noB w1).alloc _
 have HF2:=Lib.hid (HF1.out.step0 fb)
 have CO:=Lib.hid (concB_any (w1.alloc (.cells #[.slice A rs.length c,.slice none 0 0] 22)) w1.heap.size A c rs (Blk.new w1 22 [.slice A rs.length c,.slice none 0 0]) (HS.out.fr0 HF2.out) (by have:=HB.out;omega))
 have HM2:=Lib.hid (mpI_fr HM1.out fb (by simp [noB]))
 clear fb HF1 HM1
 go_wp2_with (go_at_call 17;refine CO.out.mono ?_;rintro e w2 ⟨A2,c2,rfl,ho,hf⟩;have HO2:=Lib.hid (own_base ho HF2.out.size);have HF3:=Lib.hid (HF2.out.step0 hf);have HM3:=Lib.hid (mpI_fr HM2.out hf (by simp [noB]));clear ho hf)
 have H0:=Lib.hid (show ∃ (i:Nat) (kv:List (ID × Value)),Value.int .i64 0 = .int .i64 (i:Int) ∧ rs.length - 0 = rs.length - i ∧ i ≤ rs.length ∧ mpI w2 M = some kv ∧ MetIn kv rs xs i ∧ OwnC codB w w2 A2 c2 rs ∧ Fr noB w w2 from ⟨0,[],rfl,rfl,Nat.zero_le _,HM3.out,(fun id v h=>by cases h),HO2.out,HF3.out⟩)
 clear CO HF2 HM2 HM3 HO2 HF3
 go_loopg [33] (rs.length - 0) (fun gk iv wr=>∃ (i:Nat) (kv:List (ID × Value)),iv = .int .i64 (i:Int) ∧ gk = rs.length - i ∧ i ≤ rs.length ∧ mpI wr M = some kv ∧ MetIn kv rs xs i ∧ OwnC codB w wr A2 c2 rs ∧ Fr noB w wr)
 case atStart=>exact H0.out
 case round =>
  clear H0
  obtain ⟨i,kv,rfl,rfl,hi,hmp,hmet,ho,hf⟩:=hrel
  have HMP:=Lib.hid hmp
  have HMT:=Lib.hid hmet
  have HO:=Lib.hid ho
  have HF:=Lib.hid hf
  clear hmp hmet ho hf
  by_cases hlt:i < rs.length
  ·have i2:(i:Int) < (rs.length:Int):=by omega
   have i0:(0:Int) ≤ (i:Int):=by omega
   have HLT:=Lib.hid hlt
   have hlx:i < xs.length:=by rw [← HLX.out];exact hlt
   obtain ⟨g,off,rfl,hg,hc⟩:=cellB (Sl.own HO.out) (by omega)
   have e1:=hc i hlt
   have hin:=(HX.out.at_ i hlt hlx).fr0 HF.out
   have hd1:=HD.out rs[i] (List.getElem_mem hlt)
   generalize hr:rs[i] = r at e1 hin hd1
   generalize hx:xs[i] = x at hin
   have HXR:=Lib.hid (show ∃ (h:i < rs.length) (h':i < xs.length),rs[i] = r ∧ xs[i] = x from ⟨hlt,hlx,hr,hx⟩)
   obtain ⟨rA,rn,rc⟩:=r
   have HIN:=Lib.hid hin
   have HD1:=Lib.hid hd1
   simp only at e1
   clear hc hg hin hd1 hx hr hlt hi hlx
   obtain ⟨y,hy⟩:∃ y,y = nameH x:=⟨_,rfl⟩
   have HY:=Lib.hid hy
   have CS:=Lib.hid (show Calls Try.prog 11 #[.slice rA rn rc] wr (fun e w'=>e = .returned (encI y) ∧ Fr noB wr w') by rw [hy];exact sum_sh wr rA rn rc x HIN.out.len (by have:=HIN.out.len;have:=HIN.out.cap;simp only at *;omega) HIN.out.bd HIN.out.sl)
   clear hy
   go_upto_region 10 with (go_at_call 11;refine CS.out.mono ?_;rintro e w3 ⟨rfl,hf3⟩;have HF3:=Lib.hid hf3;clear hf3)
   obtain ⟨I,hI⟩:∃ I,I = w3.heap.size:=⟨_,rfl⟩
   obtain ⟨g1,_,g3⟩:=putB_fr (bxI_new w3 zID) y
   have f4:Fr noB wr (putB (w3.alloc (ido zID)) w3.heap.size y):=HF3.out.step0 (((Fr.refl noB w3).alloc _).trans g1 (fun b hb e=>by have e:b = w3.heap.size:=e;omega))
   rw [← hI] at g3 f4 ⊢
   have HI4:=Lib.hid g3
   have HM4:=Lib.hid (mpI_fr HMP.out f4 (by simp [noB]))
   have HO4:=Lib.hid (own_fr HO.out f4 (fun _ _=>by simp [noB]))
   have HF4:=Lib.hid (HF.out.step0 f4)
   have HIN4:=Lib.hid (HIN.out.fr0 f4)
   clear hI g1 g3 f4 e1 HMP HO HF HF3 HIN CS CC
   generalize putB (w3.alloc (ido zID)) I y = w4 at HI4 HM4 HO4 HF4 HIN4 ⊢
   have r4:=bxI_rd HI4.out
   obtain ⟨hput,hm5,f5,hz5⟩:=mput_all Try.underlying43 HM4.out y (.slice rA rn rc)
   have HM5:=Lib.hid hm5
   have HF5:=Lib.hid (HF4.out.step1 f5 HMW.out)
   have HO5:=Lib.hid (own_fr HO4.out f5 (fun g hg e=>by
    rcases HO4.out.2 with ⟨hv,_⟩ | ⟨g',cap,cu,hv,_,hh,_⟩
    ·cases hv
    ·rw [hv] at hg
     have e':g' = g:=by simpa [Value.ownBlock] using hg
     subst e'
     exact mp_ne HM4.out hh e))
   have HMT5:=Lib.hid (show MetIn (putL kv y (.slice rA rn rc)) rs xs (i + 1) from by
    intro id v h
    rw [look_putI] at h
    split at h
    ·rename_i he
     obtain ⟨h1,h2,h3,h4⟩:=HXR.out
     injection h with h
     exact ⟨i,h1,h2,Nat.lt_succ_self i,by rw [h3];exact h.symm,by rw [h4,he,HY.out]⟩
    ·obtain ⟨k,h1,h2,h3,h4⟩:=HMT.out id v h
     exact ⟨k,h1,h2,by omega,h4⟩)
   clear hm5 f5 hz5
   have wk:wrap64 ((i:Int) + 1) = (i:Int) + 1:=IntWalk.wrap64_in _ (by have:=HLT.out;have:=HB.out;omega)
   cases hl:look kv y with
   | none =>
    have hlk:(Instr.lookup 43 (.map (some M)) (encI y) true).run Try.prog w4 = .ok (.tuple #[.slice none 0 0,.bool false]) w4:=by
     rw [(mpI_mp HM4.out).lookOk keyI Try.underlying43 (zeroBy w4) y,hl];rfl
    clear hl
    go_wp2_with fail
    go_roundg (rs.length - (i + 1))
    case measure=>have:=HLT.out;omega
    case rel=>exact ⟨i + 1,_,by first | exact congrArg (Value.int .i64) wk | simp,rfl,HLT.out,HM5.out,HMT5.out,HO5.out,HF5.out⟩
   | some v =>
    obtain ⟨k,k1,k2,k3,hv,hk⟩:=HMT.out y v hl
    have hlk:(Instr.lookup 43 (.map (some M)) (encI y) true).run Try.prog w4 = .ok (.tuple #[v,.bool true]) w4:=by
     rw [(mpI_mp HM4.out).lookOk keyI Try.underlying43 (zeroBy w4) y,hl];rfl
    rw [hv] at hlk
    have hin2:=(HX.out.at_ k k1 k2).fr0 HF4.out
    have HXK:=Lib.hid (show ∃ h:k < xs.length,nameH xs[k] = y from ⟨k2,hk⟩)
    have HXK2:=Lib.hid (List.getElem_mem k2)
    generalize hxk:xs[k] = x2 at hin2 HXK2
    generalize rs[k] = r2 at hlk hin2
    obtain ⟨sA,sn,sc⟩:=r2
    have HNE:=Lib.hid (show nameH x2 = y by rw [← hxk];exact hk)
    have HI2:=Lib.hid hin2
    simp only at hlk
    clear hl hv hk hin2 k1 k2 hxk
    obtain ⟨q,hq⟩:∃ q,q = decide (x2 = x):=⟨_,rfl⟩
    have HQ:=Lib.hid hq
    have CQ:=Lib.hid (show Calls Try.prog 18 #[.slice sA sn sc,.slice rA rn rc] w4 (SameTo w4 (.bool q)) by rw [hq];exact beq_any w4 sA rA sn rn sc rc x2 x HI2.out.len HIN4.out.len HI2.out.sl HIN4.out.sl)
    clear hq
    cases q with
    | true =>
     go_wp2_with (go_at_call 18;refine CQ.out.mono ?_;rintro e w8 ⟨rfl,h8⟩;replace h8:=h8.symm;subst h8)
     go_roundg (rs.length - (i + 1))
     case measure=>have:=HLT.out;omega
     case rel=>exact ⟨i + 1,_,by first | exact congrArg (Value.int .i64) wk | simp,rfl,HLT.out,HM5.out,HMT5.out,HO5.out,HF5.out⟩
    | false =>
     go_wp2_with (go_at_call 18;refine CQ.out.mono ?_;rintro e w8 ⟨rfl,h8⟩;replace h8:=h8.symm;subst h8)
     go_ret2
     obtain ⟨h1,h2,h3,h4⟩:=HXR.out
     exact ⟨HF4.out,.inr ⟨rfl,x2,HXK2.out,x,by rw [← h4];exact List.getElem_mem h2,of_decide_eq_false HQ.out.symm,by rw [HNE.out,HY.out]⟩⟩
  ·have i2:¬ (i:Int) < (rs.length:Int):=by omega
   clear hlt hi HMP HMT HO CC
   go_upto_region 17 with (go_at_call 19;refine (once_any _ A _ c rs xs rfl (HS.out.fr0 HF.out) (by have:=HB.out;omega) (HX.out.fr0 HF.out)).mono ?_;rintro e w5 ⟨A5,c5,rs5,rfl,ho5,hb5,hf5,hsub⟩;have HO5:=Lib.hid (own_base ho5 HF.out.size);have HB5:=Lib.hid hb5;have HF5:=Lib.hid (HF.out.step0 hf5);have HSUB:=Lib.hid hsub;clear ho5 hb5 hf5 hsub)
   obtain ⟨IN,hIN⟩:∃ x,x = w5.heap.size:=⟨_,rfl⟩
   obtain ⟨IB,hIB⟩:∃ x,x = w5.heap.size + 1:=⟨_,rfl⟩
   have f6:Fr noB w5 ((w5.alloc (.map #[] 0)).alloc (.cells #[.map (some w5.heap.size)] 46)):=((Fr.refl noB w5).alloc _).alloc _
   have HI6:=Lib.hid (show mpI ((w5.alloc (.map #[] 0)).alloc (.cells #[.map (some w5.heap.size)] 46)) IN = some [] by rw [hIN,mpI_old _ _ _ (by simp)];exact mpI_new w5)
   have HC6:=Lib.hid (show Blk ((w5.alloc (.map #[] 0)).alloc (.cells #[.map (some w5.heap.size)] 46)) IB 46 [.map (some IN)] by
    have:=Blk.new (w5.alloc (.map #[] 0)) 46 [.map (some w5.heap.size)]
    rw [show (w5.alloc (.map #[] 0)).heap.size = IB by rw [hIB];simp] at this
    rw [hIN];exact this)
   have HO6:=Lib.hid (own_fr HO5.out f6 (fun _ _=>by simp [noB]))
   have HB6:=Lib.hid (HB5.out.fr0 f6)
   have HF6:=Lib.hid (HF5.out.step0 f6)
   have HIW:=Lib.hid (show w.heap.size ≤ IN ∧ IN < IB from by have:=HF5.out.size;omega)
   have HOI:=Lib.hid (show ∀ g,(Value.slice A5 rs5.length c5).ownBlock = some g → g < IN from fun g hg=>by have:=(HO5.out.lt g hg).2;omega)
   have HLO:=Lib.hid (show rs5.length ≤ rs.length from by have h1:=HB5.out.len;have h2:=onceF_len xs [];have h3:=HLX.out;simp at h2;omega)
   rw [← hIB]
   rw [← hIN] at *
   clear f6 hIN hIB HO5 HB5 HF5 HF
   generalize (w5.alloc (.map #[] 0)).alloc (.cells #[.map (some IN)] 46) = w6 at HI6 HC6 HO6 HB6 HF6 ⊢
   have H2:=Lib.hid (show ∃ (i:Nat) (kv:List (ID × Value)),Value.int .i64 0 = .int .i64 (i:Int) ∧ rs5.length - 0 = rs5.length - i ∧ i ≤ rs5.length ∧ mpI w6 IN = some kv ∧ Blk w6 IB 46 [.map (some IN)] ∧ OwnC codB w w6 A5 c5 rs5 ∧ BsIn w6 rs5 (onceF xs []) ∧ Fr noB w w6 from ⟨0,[],rfl,rfl,Nat.zero_le _,HI6.out,HC6.out,HO6.out,HB6.out,HF6.out⟩)
   clear HI6 HC6 HO6 HB6 HF6
   go_wp2_with fail
   go_loopg [61] (rs5.length - 0) (fun gk iv wx=>∃ (i:Nat) (kv:List (ID × Value)),iv = .int .i64 (i:Int) ∧ gk = rs5.length - i ∧ i ≤ rs5.length ∧ mpI wx IN = some kv ∧ Blk wx IB 46 [.map (some IN)] ∧ OwnC codB w wx A5 c5 rs5 ∧ BsIn wx rs5 (onceF xs []) ∧ Fr noB w wx)
   case atStart=>exact H2.out
   case round =>
    clear H2
    obtain ⟨i,kv,rfl,rfl,hi,hmp,hcb,ho,hbs,hf⟩:=hrel
    have HMP:=Lib.hid hmp
    have HCB:=Lib.hid hcb
    have HO:=Lib.hid ho
    have HBS:=Lib.hid hbs
    have HF:=Lib.hid hf
    clear hmp hcb ho hbs hf
    by_cases hlt:i < rs5.length
    ·have i2:(i:Int) < (rs5.length:Int):=by omega
     have i0:(0:Int) ≤ (i:Int):=by omega
     have HLT:=Lib.hid hlt
     have hlx:i < (onceF xs []).length:=by rw [← HBS.out.len];exact hlt
     obtain ⟨g,off,rfl,hg,hc⟩:=cellB (Sl.own HO.out) (by omega)
     have e1:=hc i hlt
     have hin:=HBS.out.at_ i hlt hlx
     generalize rs5[i] = r at e1 hin
     generalize (onceF xs [])[i] = x at hin
     obtain ⟨rA,rn,rc⟩:=r
     have HIN:=Lib.hid hin
     simp only at e1
     clear hc hg hin hlt hi hlx
     obtain ⟨y,hy⟩:∃ y,y = nameH x:=⟨_,rfl⟩
     have HY:=Lib.hid hy
     clear hy
     go_upto_region 20 with fail
     obtain ⟨F,hFd⟩:∃ F:World → Prop,F = fun w'=>Fr noB wr.drew w':=⟨_,rfl⟩
     have hF0:F wr.drew:=by rw [hFd];exact Fr.refl _ _
     have fr:∀ j:Wd F,Fr noB wr.drew j.w:=fun j=>cast (congrFun hFd j.w) j.h
     have fd:Fr noB wr wr.drew:=(Fr.refl noB wr).drew
     have q0:∀ j:Wd F,j.w.cell? ⟨IB,0,none⟩ = some (.map (some IN)):=fun j=>(HCB.out.fr (fd.step0 (fr j)) (by simp [noB])).cell 0
     have HMP3:=Lib.hid (mpI_fr HMP.out fd (by simp [noB]))
     have HCB3:=Lib.hid (HCB.out.fr fd (by simp [noB]))
     have HO3:=Lib.hid (own_fr HO.out fd (fun _ _=>by simp [noB]))
     have HBS3:=Lib.hid (HBS.out.fr0 fd)
     have HF3:=Lib.hid (HF.out.step0 fd)
     have HIN3:=Lib.hid (HIN.out.fr0 fd)
     have HFD:=Lib.hid hFd
     clear hFd fr fd HMP HCB HO HBS HF HIN e1
     refine wp_region_M 3 4 [⟨36893488147419103232,8192,0⟩,⟨73786976294838206464,32768,0⟩,⟨147573952589676412928,73786976294838206464,2⟩,⟨0,184467440737095516160,7⟩] [(true,0),(true,1),(false,2)] F (by kernel_rfl) rfl (by kernel_rfl) (by kernel_rfl) (by kernel_rfl) hF0 (fun hA hF=>?_)
     clear hF0
     generalize wr.drew = wd at hF q0 HMP3 HCB3 HO3 HBS3 HF3 HIN3 HFD ⊢
     have keep:∀ w' w'',Fr noB w' w'' → F w' → F w'':=fun w' w'' f h=>by rw [HFD.out] at h ⊢;exact h.step0 f
     have NE:=Wd.ne hF
     refine wpAnyS_takes (s2:=[(false,2)]) (fuel:=2) (fun d v c a w h=>by cases d <;> exact h) hF [0,1] hA ?_
     repeat (refine wpTakes_at (by rfl) (by rfl) ?_;go_big_quiet_step (fail);refine wpQuiet_nil ?_)
     refine wpTakes_nil ?_
     clear NE
     intro hA
     refine wpAnyS_one hA rfl (fun K' hK=>?_)
     go_simp
     go_at_call 11
     refine (sum_sh wd rA rn rc x HIN3.out.len (by have:=HIN3.out.len;have:=HIN3.out.cap;simp only at *;omega) HIN3.out.bd HIN3.out.sl).mono ?_
     rw [show SmTo wd x = fun e w'=>e = .returned (encI y) ∧ Fr noB wd w' from by funext e w';unfold SmTo;rw [HY.out]]
     rintro e w7 ⟨rfl,hf7⟩
     obtain ⟨hput,hm8,f8,hz8⟩:=mput_all Try.underlying46 (mpI_fr HMP3.out hf7 (by simp [noB])) y (.bool true)
     have HF8:=Lib.hid ((HF3.out.step0 hf7).step1 f8 (by have:=HIW.out;omega))
     have HM8:=Lib.hid hm8
     have HC8:=Lib.hid ((HCB3.out.fr hf7 (by simp [noB])).fr f8 (fun e=>by have e:IB = IN:=e;have:=HIW.out;omega))
     have HO8:=Lib.hid (own_fr (own_fr HO3.out hf7 (fun _ _=>by simp [noB])) f8 (fun g hg e=>by have e:g = IN:=e;have:=HOI.out g hg;omega))
     have HB8:=Lib.hid ((HBS3.out.fr0 hf7).mapF (mpI_fr HMP3.out hf7 (by simp [noB])) f8)
     replace hF:=keep _ _ hf7 hF
     refine hK.out _ _ hF (fun hA=>?_)
     clear hK K' keep hF q0 hf7 hm8 f8 hz8
     refine wpAnyS_end hA rfl ?_
     simp only [List.drop_succ_cons,List.drop_zero]
     go_wp2_with fail
     have wk:wrap64 ((i:Int) + 1) = (i:Int) + 1:=IntWalk.wrap64_in _ (by have:=HLT.out;have:=HLO.out;have:=HB.out;omega)
     go_roundg (rs5.length - (i + 1))
     case measure=>have:=HLT.out;omega
     case rel=>exact ⟨i + 1,_,by first | exact congrArg (Value.int .i64) wk | simp,rfl,HLT.out,HM8.out,HC8.out,HO8.out,HB8.out,HF8.out⟩
    ·have i2:¬ (i:Int) < (rs5.length:Int):=by omega
     clear hlt hi HMP HCB
     obtain ⟨L,hL⟩:∃ L,L = onceF xs []:=⟨_,rfl⟩
     have HL:=Lib.hid hL
     rw [← hL] at HBS
     have HLL:=Lib.hid HBS.out.len
     obtain ⟨o0,ho0⟩:∃ o,o = [80,76,82,68] ++ numB rs5.length:=⟨_,rfl⟩
     have HO0:=Lib.hid ho0
     have fm:Fr noB wr (wr.alloc (.cells #[.int .u8 80,.int .u8 76,.int .u8 82,.int .u8 68] 5 (4,5))):=(Fr.refl noB wr).alloc _
     have HSM:=Lib.hid (show Sl (wr.alloc (.cells #[.int .u8 80,.int .u8 76,.int .u8 82,.int .u8 68] 5 (4,5))) (some ⟨wr.heap.size,0,none⟩) (bv [80,76,82,68]) from Sl.newF wr 5 [.int .u8 80,.int .u8 76,.int .u8 82,.int .u8 68] (4,5))
     have HFM:=Lib.hid fm
     have CN:=Lib.hid (show Calls Try.prog 23 #[.slice (some ⟨wr.heap.size,0,none⟩) 4 4,.int .i64 (rs5.length:Int)] (wr.alloc (.cells #[.int .u8 80,.int .u8 76,.int .u8 82,.int .u8 68] 5 (4,5))) (NewBytes (wr.alloc (.cells #[.int .u8 80,.int .u8 76,.int .u8 82,.int .u8 68] 5 (4,5))) o0) by
      rw [ho0]
      exact enum_n _ (some ⟨wr.heap.size,0,none⟩) 4 [80,76,82,68] 4 rfl HSM.out (by decide) rs5.length (by have:=HLO.out;have:=HB.out;omega))
     clear hL ho0 fm
     go_upto_region 25 with first
      | (go_at_call 21;refine (clnil_any _).mono ?_;rintro e w8 ⟨rfl,h8⟩;replace h8:=h8.symm;subst h8)
      | (go_at_call 20;refine (delnil_any _ _).mono ?_;rintro e w8 ⟨rfl,h8⟩;replace h8:=h8.symm;subst h8)
      | (go_at_call 23;refine CN.out.mono ?_;rintro e w9 ⟨A9,c9,rfl,ho9,hf9⟩;have HO9:=Lib.hid (own_base ho9 HFM.out.size);have HF9:=Lib.hid (HFM.out.step0 hf9);clear ho9 hf9)
     have H3:=Lib.hid (show ∃ (i:Nat) (A1:Option Addr) (c1:Nat) (o:List UInt8) (A3:Option Addr) (c3:Nat) (rp:List PeW) (es:List PeP),Value.slice A9 o0.length c9 = .slice A1 o.length c1 ∧ Value.slice none 0 0 = .slice A3 rp.length c3 ∧ Value.int .i64 0 = .int .i64 (i:Int) ∧ rs5.length - 0 = rs5.length - i ∧ i ≤ rs5.length ∧ OwnB wr w9 A1 c1 o ∧ OwnC codPe wr w9 A3 c3 rp ∧ OwnC codB w w9 A5 c5 rs5 ∧ PosIn wr rp es ∧ rp.length = i ∧ putsF L o0 [] = putsF (L.drop i) o es ∧ o.length ≤ 20 + i * 1048700 ∧ Fr noB wr w9 from
      ⟨0,A9,c9,o0,none,0,[],[],rfl,rfl,rfl,rfl,Nat.zero_le _,HO9.out,World.ownsRow_nil _ _ _ _,own_fr HO.out HF9.out (fun _ _=>by simp [noB]),PosIn.nil _,rfl,rfl,by have:=numB_length rs5.length (by have:=HLO.out;have:=HB.out;omega);rw [HO0.out];simp;omega,HF9.out⟩)
     clear HO9 HF9 HO HFM HSM CN
     obtain ⟨V,hV⟩:∃ V,V = wr:=⟨_,rfl⟩
     subst hV
     go_wp2_with fail
     go_loopg [16,17,80] (rs5.length - 0) (fun gk ov av iv wx=>∃ (i:Nat) (A1:Option Addr) (c1:Nat) (o:List UInt8) (A3:Option Addr) (c3:Nat) (rp:List PeW) (es:List PeP),ov = .slice A1 o.length c1 ∧ av = .slice A3 rp.length c3 ∧ iv = .int .i64 (i:Int) ∧ gk = rs5.length - i ∧ i ≤ rs5.length ∧ OwnB V wx A1 c1 o ∧ OwnC codPe V wx A3 c3 rp ∧ OwnC codB w wx A5 c5 rs5 ∧ PosIn V rp es ∧ rp.length = i ∧ putsF L o0 [] = putsF (L.drop i) o es ∧ o.length ≤ 20 + i * 1048700 ∧ Fr noB V wx)
     case atStart=>exact H3.out
     case round =>
      clear H3
      obtain ⟨i,A1,c1,o,A3,c3,rp,es,rfl,rfl,rfl,rfl,hi,ho1,ho3,ho5,hps,hrp,hex,hol,hf⟩:=hrel
      have HO1:=Lib.hid ho1
      have HO3:=Lib.hid ho3
      have HO5:=Lib.hid ho5
      have HPS:=Lib.hid hps
      have HRP:=Lib.hid hrp
      have HEX:=Lib.hid hex
      have HOL:=Lib.hid hol
      have HFV:=Lib.hid hf
      clear ho1 ho3 ho5 hps hrp hex hol hf
      by_cases hlt:i < rs5.length
      ·have i2:(i:Int) < (rs5.length:Int):=by omega
       have i0:(0:Int) ≤ (i:Int):=by omega
       have HLT:=Lib.hid hlt
       have HIL:=Lib.hid (show i < 65535 from by have:=HLO.out;have:=HB.out;omega)
       have hlx:i < L.length:=by rw [← HLL.out];exact hlt
       obtain ⟨g,off,rfl,hg,hc⟩:=cellB (Sl.own HO5.out) (by omega)
       have e1:=hc i hlt
       have hin:=HBS.out.at_ i hlt hlx
       have hrm:=HSUB.out _ (List.getElem_mem hlt)
       have hdr:putsF (L.drop i) o es = putsF (L.drop (i + 1)) (o ++ (shortF L[i] es).1) (es ++ [⟨L[i],(shortF L[i] es).2⟩]):=by rw [List.drop_eq_getElem_cons hlx];rfl
       generalize rs5[i] = r at e1 hin hrm
       generalize L[i] = x at hin hdr
       have hd1:=HD.out r hrm
       have hn1:=HNL.out r hrm
       obtain ⟨rA,rn,rc⟩:=r
       have HIN:=Lib.hid hin
       have HD1:=Lib.hid hd1
       have HN1:=Lib.hid hn1
       simp only at e1
       have HXB:=Lib.hid (show x.length ≤ 1048576 from by have:=HIN.out.len;simp only at *;omega)
       obtain ⟨sh,hsh⟩:∃ sh,sh = shortF x es:=⟨_,rfl⟩
       have HSH:=Lib.hid (show sh.2 ≤ 8 ∧ sh.1.length ≤ 1048600 from by
        rw [hsh]
        refine ⟨shortL_ch x es _,Nat.le_trans (shortL_len x es _) ?_⟩
        unfold textF
        have:=numB_length x.length (by have:=HXB.out;omega)
        have:=HXB.out
        simp only [List.length_append,List.length_singleton]
        omega)
       rw [← hsh] at hdr
       have HDR:=Lib.hid hdr
       have CS:=Lib.hid (show Calls Try.prog 24 #[.slice rA rn rc,.slice A3 rp.length c3,.slice none 0 0] wr (ShTo wr sh) by
        rw [hsh]
        exact pkshort_any wr rA rn rc x A3 _ c3 rp es HIN.out.len (by have:=HIN.out.len;have:=HIN.out.cap;simp only at *;omega) (HIN.out.sl.fr0 HFV.out) HXB.out rfl (Sl.own HO3.out) (HPS.out.fr0 HFV.out) (by have:=HRP.out;have:=HIL.out;omega) z (cell_fr0 HZ.out.1 (HF.out.step0 HFV.out)) (Nat.lt_of_lt_of_le HZ.out.2 (HF.out.step0 HFV.out).size))
       clear hc hg hin hrm hdr hd1 hn1 hsh hlt hi hlx
       obtain ⟨s1,sc⟩:=sh
       go_upto_region 29 with (go_at_call 24;refine CS.out.mono ?_;rintro e w7 ⟨A8,c8,rfl,ho8,hf8⟩;have HO8:=Lib.hid (show OwnB wr w7 A8 c8 s1 from ho8);have HF8:=Lib.hid hf8;clear ho8 hf8)
       have HA1:=Lib.hid (own_fr HO1.out HF8.out (fun _ _=>by simp [noB]))
       have HA3:=Lib.hid (own_fr HO3.out HF8.out (fun _ _=>by simp [noB]))
       have HA5:=Lib.hid (own_fr HO5.out HF8.out (fun _ _=>by simp [noB]))
       have HFW:=Lib.hid ((HF.out.step0 HFV.out).step0 HF8.out)
       clear HO1 HO3 HO5 CS e1
       go_upto_region 30 with (at_builtin;refine wpList_appB w7 etBytes rfl _ _ rfl V.heap.size _ _ o rfl HA1.out A8 _ c8 s1 rfl (Sl.own HO8.out) rfl (by have:=HOL.out;have h2:s1.length ≤ 1048600:=HSH.out.2;have:=HIL.out;omega) (HFV.out.step0 HF8.out).size ?_;intro A9 c9 w9 hc9 hm9 ho9 hg9 hA9;obtain ⟨o9,he9⟩:∃ t,t = o ++ s1:=⟨_,rfl⟩;rw [← he9] at ho9 ⊢;have HE9:=Lib.hid he9;have HO9:=Lib.hid ho9;have HF9:=Lib.hid (Fr.ofGrown (M:=fun b=>(Value.slice A1 o.length c1).ownBlock = some b) hg9 (fun _ h=>h));clear he9 hc9 hm9 ho9 hg9 hA9)
       have HB3:=Lib.hid (own_fr HA3.out HF9.out (fun g hg e=>own_own_ne HA3.out HA1.out (by decide) g hg e))
       have HB5:=Lib.hid (own_fr HA5.out HF9.out (fun g hg e=>own_own_ne HA5.out HA1.out (by decide) g hg e))
       have HFX:=Lib.hid (HFW.out.step HF9.out (fun b hb=>.inl (Nat.le_trans HF.out.size (HA1.out.lt b hb).1)))
       have HVX:=Lib.hid ((HFV.out.step0 HF8.out).step HF9.out (fun b hb=>.inl (HA1.out.lt b hb).1))
       have fn:Fr noB w9 (w9.alloc (.cells #[.slice rA rn rc,.int .i64 (sc:Int)] 53)):=(Fr.refl noB w9).alloc _
       have sl:Sl (w9.alloc (.cells #[.slice rA rn rc,.int .i64 (sc:Int)] 53)) (some ⟨w9.heap.size,0,none⟩) (codPe.row [⟨rA,rn,rc,sc⟩]):=Sl.new w9 53 [.slice rA rn rc,.int .i64 (sc:Int)]
       have ho2:OwnC codPe V (w9.alloc (.cells #[.slice rA rn rc,.int .i64 (sc:Int)] 53)) A3 c3 rp:=own_fr HB3.out fn (fun _ _=>by simp [noB])
       have sz:V.heap.size ≤ (w9.alloc (.cells #[.slice rA rn rc,.int .i64 (sc:Int)] 53)).heap.size:=(HVX.out.step0 fn).size
       have HFN:=Lib.hid fn
       clear fn
       go_wp2_with (at_builtin;refine wpList_appC' etPe V _ rfl _ _ rfl A3 rp.length c3 rp rfl rfl ho2 (some ⟨w9.heap.size,0,none⟩) 1 1 [⟨rA,rn,rc,sc⟩] rfl sl rfl (by have:=HRP.out;have:=HIL.out;simp;omega) sz ?_;intro AA ca wa hca hma hoa hga hAA;obtain ⟨l8,hl8⟩:∃ t,t = rp ++ [(⟨rA,rn,rc,sc⟩:PeW)]:=⟨_,rfl⟩;rw [← hl8] at hoa ⊢;have HL8:=Lib.hid hl8;have HGA:=Lib.hid (Fr.ofGrown (M:=fun b=>A3.map (·.block) = some b) hga (fun _ h=>h));have HOA:=Lib.hid hoa;have HO2:=Lib.hid ho2;clear hl8 hca hma hga hAA hoa sl)
       have wk:wrap64 ((i:Int) + 1) = (i:Int) + 1:=IntWalk.wrap64_in _ (by have:=HIL.out;omega)
       go_roundg (rs5.length - (i + 1))
       case measure=>have:=HLT.out;omega
       case rel =>
        have fa:=HGA.out
        have g2:∀ b,A3.map (·.block) = some b → (Value.slice A3 rp.length c3).ownBlock = some b:=fun b hb=>by rw [ownBlock_sl'];exact hb
        refine ⟨i + 1,A9,c9,o9,AA,ca,l8,es ++ [⟨x,sc⟩],rfl,rfl,by first | exact congrArg (Value.int .i64) wk | simp,rfl,HLT.out,?_,HOA.out,?_,?_,by rw [HL8.out,List.length_append,HRP.out];rfl,by rw [HEX.out,HDR.out,HE9.out],?_,?_⟩
        ·exact own_fr (own_fr HO9.out HFN.out (fun _ _=>by simp [noB])) fa (fun g hg e=>own_own_ne (own_fr HO9.out HFN.out (fun _ _=>by simp [noB])) HO2.out (by decide) g hg (g2 g e))
        ·exact own_fr (own_fr HB5.out HFN.out (fun _ _=>by simp [noB])) fa (fun g hg e=>own_own_ne (own_fr HB5.out HFN.out (fun _ _=>by simp [noB])) HO2.out (by decide) g hg (g2 g e))
        ·rw [HL8.out]
         exact HPS.out.snoc ⟨HIN.out.len,HIN.out.cap,HIN.out.sl,HXB.out,rfl,HSH.out.1,HN1.out⟩
        ·rw [HE9.out,List.length_append]
         have:=HOL.out
         have h2:s1.length ≤ 1048600:=HSH.out.2
         omega
        ·exact (HVX.out.step0 HFN.out).step fa (fun b hb=>.inl (HO2.out.lt b (g2 b hb)).1)
      ·have i2:¬ (i:Int) < (rs5.length:Int):=by omega
       have HDR:=Lib.hid (show L.drop i = [] from List.drop_eq_nil_of_le (by rw [← HLL.out];omega))
       have HWF:=Lib.hid (show writeF xs = o ++ fourC (crcC o) by
        have h1:writeF xs = sealC (putsF L o0 []):=by unfold writeF;rw [← HL.out,HO0.out,HLL.out]
        rw [h1,HEX.out,HDR.out];rfl)
       have HIL:=Lib.hid (show i ≤ 65535 from by have:=HLO.out;have:=HB.out;omega)
       clear hlt hi
       have CS:=Lib.hid (esum_any wr A1 o.length c1 o rfl (Sl.own HO1.out) (by have:=HOL.out;have:=HIL.out;omega))
       have CF:=Lib.hid (show Calls Try.prog 25 #[.slice A1 o.length c1,.int .u32 ((crcC o:Nat):Int)] wr (NewBytes wr (writeF xs)) by rw [HWF.out];exact efour_any wr A1 o.length c1 o rfl (Sl.own HO1.out) (by have:=HOL.out;have:=HIL.out;omega) (crcC o) (crcC_lt o))
       go_wp2_with first
        | (go_at_call 26;refine CS.out.mono ?_;rintro e w8 ⟨rfl,h8⟩;replace h8:=h8.symm;subst h8)
        | (go_at_call 25;refine CF.out.mono ?_;rintro e w9 ⟨A9,c9,rfl,ho9,hf9⟩;have HO9:=Lib.hid ho9;have HF9:=Lib.hid hf9;clear ho9 hf9)
       go_ret2
       exact ⟨(HF.out.step0 HFV.out).step0 HF9.out,.inl ⟨A9,c9,rfl,own_base HO9.out (HF.out.step0 HFV.out).size⟩⟩
end Go.Proofs.Ytahllkifmmjbdaa
