/- Contracts: delta.Make. -/
import Derived.Test.YtahllkifmmjbdaaPkHKp
set_option linter.unusedVariables false
set_option linter.unusedSimpArgs false
namespace Go.Proofs.Ytahllkifmmjbdaa
open Go.RowKit Go.Maps
set_option maxRecDepth 100000 in
set_option maxHeartbeats 2000000 in
theorem make_parts (w:World) (A T:Option Addr) (cb ct:Nat) (base target:List UInt8) (hA:Sl w A (bv base)) (hT:Sl w T (bv target)) (hcb:base.length ≤ cb) (hct:target.length ≤ ct) (hAn:A = none → cb = 0)
  (hb:base.length ≤ 1000000000) (m:Int) (hm:w.cell? ⟨0,0,none⟩ = some (.int .i64 m)) (hw0:0 < w.heap.size) (h1:target.length ≤ 1048576) (hpos:0 < target.length) (hi:Lib.index base target = -1) :
  Calls Try.prog 46 #[.slice A base.length cb,.slice T target.length ct] w (MakeTo w (if (plainD target).length < (madeO base target).length then .ok (plainD target) else .ok (madeO base target))):=by
 obtain ⟨res,hres⟩:∃ r,r = if (plainD target).length < (madeO base target).length then Except.ok (ε:=Nat) (plainD target) else .ok (madeO base target):=⟨_,rfl⟩
 rw [← hres]
 have HR:=Lib.hid hres
 clear hres
 have H2:Hid (target ≠ []):=(fun h=>by rw [h] at hpos;simp at hpos)
 have e0:((target.length:Int) == 0) = false:=by rw [beq_eq_false_iff_ne];omega
 have e1:¬ ((1048576:Int) < (target.length:Int)):=by omega
 have HI:=Lib.hid hi
 clear hi
 obtain ⟨told,htold⟩:∃ told,told = numB target.length:=⟨_,rfl⟩
 have hl9:told.length ≤ 9:=by rw [htold];exact numB_length _ (by omega)
 have HT:=Lib.hid htold
 clear htold
 go_enter Try.func46,Try.ntmps46
 go_wp2_with (first
  | (go_at_call 23;refine (enum_nil _ target.length (by omega) told HT.out).mono ?_;rintro e w1 ⟨A1,k1,rfl,ho1,hf1⟩)
  | (go_at_call 67;refine (index_any _ A cb base T ct target m (hA.fr0 hf1) (hT.fr0 hf1) H2.out hcb hAn (by omega) (by omega) ((World.cell?_of_block (a:=⟨0,0,none⟩) (hf1.block 0 hw0 (by simp [noB]))).trans hm) _ _ rfl rfl).mono ?_;rw [HI.out];rintro e w2 ⟨rfl,hf2⟩)
  | (go_at_call 35;refine (clone_n _ A1 k1 told _ rfl ((Sl.own ho1).fr0 (hf2.alloc _)) (by omega)).mono ?_;rintro e w3 ⟨A3,k3,rfl,ho3,hf3⟩))
 have F3:Fr noB w w3:=((hf1.step0 hf2).alloc _).step0 hf3
 have o1:OwnBt w w3 A1 k1 told:=own_fr ho1 ((hf2.alloc _).step0 hf3) (fun _ _=>by simp [noB])
 have o3:OwnBt w w3 A3 k3 told:=own_base ho3 (by simp;have:=(hf1.step0 hf2).size;omega)
 have P3:Plc w w3 w2.heap.size (plcN base 0):=(Plc.new w w2 (hf1.step0 hf2)).fr0 hf3
 go_loopg [9] (base.length + 4) (fun gk iv_ wr=>Mk1 w w3.heap.size w2.heap.size A cb base T target.length ct A3 k3 A1 k1 told gk iv_ wr)
 case atStart =>
  exact ⟨0,rfl,.inl rfl,by simp,P3.fr0 ((Fr.refl noB w3).alloc _),Blk.new _ _ _,own_fr o3 ((Fr.refl noB w3).alloc _) (fun _ _=>by simp [noB]),own_fr o1 ((Fr.refl noB w3).alloc _) (fun _ _=>by simp [noB])⟩
 case round =>
  obtain ⟨n,rfl,hn,rfl,hPl,hMk,hO,hD⟩:=hrel
  have hpw:w.heap.size ≤ w3.heap.size:=F3.size
  have c2:wr.cell? ⟨w3.heap.size,2,none⟩ = some (.map (some w2.heap.size)):=Blk.cell hMk 2
  have hW:=hPl.fr
  by_cases hlt:4 * n + 8 ≤ base.length
  ·have e1:decide (((4 * n:Nat):Int) + 8 ≤ (base.length:Int)) = true:=by simp;omega
   obtain ⟨G,cG,hlk,hoG,hst,hput⟩:=hPl.look (keyAt base (4 * n))
   have hcv:(convert 25 9 (.slice (cutA A cb (4 * n) 1) 8 (cb - 4 * n))).run Try.prog wr = .ok (encSt (keyAt base (4 * n))) wr:=by
    have hs:=(((hA.fr0 hW).cutB (k:=4 * n) hcb).takeB (k:=8))
    rw [conv_str _ _ _ _ ((base.drop (4 * n)).take 8) (by simp;omega) hs]
    rfl
   have hnext:plcN base (n + 1) = if (plcN base n (keyAt base (4 * n))).length < 4 then pushG (plcN base n) (keyAt base (4 * n)) (4 * n) else plcN base n:=rfl
   have hb1:(0:Int) ≤ ((4 * n:Nat):Int):=by omega
   have hb2:((4 * n:Nat):Int) ≤ ((4 * n:Nat):Int) + 8:=by omega
   have hb3:((4 * n:Nat):Int) + 8 ≤ (cb:Int):=by omega
   have hb4:(((4 * n:Nat):Int) + 8).toNat - (((4 * n:Nat):Int)).toNat = 8:=by omega
   by_cases h4:(plcN base n (keyAt base (4 * n))).length < 4
   ·have HN:=Lib.hid (hnext.trans (if_pos h4))
    have HP:=Lib.hid hput
    have HST:=Lib.hid hst
    clear hnext hput hst
    generalize keyAt base (4 * n) = key at *
    generalize plcN base n = g0 at *
    generalize hi4:4 * n = i4 at *
    have HI4:=Lib.hid hi4
    clear hi4
    generalize encSt key = kv at *
    go_wp2
    have lkd:(Instr.lookup 112 (.map (some w2.heap.size)) kv false).run Try.prog wr.drew = .ok (.slice G (g0 key).length cG) wr.drew:=HST.out _ ((Fr.refl _ wr).drew)
    refine wp_region_N 14 (fun w'=>w'.cell? ⟨w3.heap.size,2,none⟩ = some (.map (some w2.heap.size)) ∧ (Instr.lookup 112 (.map (some w2.heap.size)) kv false).run Try.prog w' = .ok (.slice G (g0 key).length cG) w') (by kernel_rfl) (by kernel_rfl) ⟨c2,lkd⟩ (fun hA hF=>?_)
    refine wpAnyN_take (i:=0) (v:=?_) hA rfl (by decide) (by kernel_rfl) (by kernel_rfl) (fun _ _ _ h=>h) (Or.inl ⟨by rfl,?_⟩) hF (fun hA=>?_)
    rotate_left
    ·intro wS hSw;(try dsimp only at hSw);obtain ⟨s1,s2⟩:=hSw;(go_simp;try with_reducible rfl)
    try simp only [sA1,sA2,sA3,Act.put,sA4,sA5,sA6]
    refine wpAnyN_take (i:=1) (v:=?_) hA rfl (by decide) (by kernel_rfl) (by kernel_rfl) (fun _ _ _ h=>h) (Or.inl ⟨by rfl,?_⟩) hF (fun hA=>?_)
    rotate_left
    ·intro wS hSw;(try dsimp only at hSw);obtain ⟨s1,s2⟩:=hSw;(go_simp;try with_reducible rfl)
    try simp only [sA1,sA2,sA3,Act.put,sA4,sA5,sA6]
    refine wpAnyN_take (i:=2) (v:=?_) hA rfl (by decide) (by kernel_rfl) (by kernel_rfl) (fun _ _ _ h=>h) (Or.inl ⟨by rfl,?_⟩) hF (fun hA=>?_)
    rotate_left
    ·intro wS hSw;(try dsimp only at hSw);obtain ⟨s1,s2⟩:=hSw;(go_simp;try with_reducible rfl)
    try simp only [sA1,sA2,sA3,Act.put,sA4,sA5,sA6]
    refine wpAnyN_take (i:=3) (v:=?_) hA rfl (by decide) (by kernel_rfl) (by kernel_rfl) (fun _ _ _ h=>h) (Or.inl ⟨by rfl,?_⟩) hF (fun hA=>?_)
    rotate_left
    ·intro wS hSw;(try dsimp only at hSw);obtain ⟨s1,s2⟩:=hSw;(go_simp;try with_reducible rfl)
    try simp only [sA1,sA2,sA3,Act.put,sA4,sA5,sA6]
    refine wpAnyN_take (i:=4) (v:=?_) hA rfl (by decide) (by kernel_rfl) (by kernel_rfl) (fun _ _ _ h=>h) (Or.inl ⟨by rfl,?_⟩) hF (fun hA=>?_)
    rotate_left
    ·intro wS hSw;(try dsimp only at hSw);obtain ⟨s1,s2⟩:=hSw;(go_simp;try with_reducible rfl)
    try simp only [sA1,sA2,sA3,Act.put,sA4,sA5,sA6]
    refine wpAnyN_take (i:=5) (v:=?_) hA rfl (by decide) (by kernel_rfl) (by kernel_rfl) (fun _ _ _ h=>h) (Or.inl ⟨by rfl,?_⟩) hF (fun hA=>?_)
    rotate_left
    ·intro wS hSw;(try dsimp only at hSw);obtain ⟨s1,s2⟩:=hSw;(go_simp;try with_reducible rfl)
    try simp only [sA1,sA2,sA3,Act.put,sA4,sA5,sA6]
    refine wpAnyN_take (i:=6) (v:=?_) hA rfl (by decide) (by kernel_rfl) (by kernel_rfl) (fun _ _ _ h=>h) (Or.inl ⟨by rfl,?_⟩) hF (fun hA=>?_)
    rotate_left
    ·intro wS hSw;(try dsimp only at hSw);obtain ⟨s1,s2⟩:=hSw;(go_simp;try with_reducible rfl)
    try simp only [sA1,sA2,sA3,Act.put,sA4,sA5,sA6]
    refine wpAnyN_take (i:=7) (v:=?_) hA rfl (by decide) (by kernel_rfl) (by kernel_rfl) (fun _ _ _ h=>h) (Or.inl ⟨by rfl,?_⟩) hF (fun hA=>?_)
    rotate_left
    ·intro wS hSw;(try dsimp only at hSw);obtain ⟨s1,s2⟩:=hSw;(go_simp;try with_reducible rfl)
    try simp only [sA1,sA2,sA3,Act.put,sA4,sA5,sA6]
    refine wpAnyN_take (i:=8) (v:=?_) hA rfl (by decide) (by kernel_rfl) (by kernel_rfl) (fun _ _ _ h=>h) (Or.inl ⟨by rfl,?_⟩) hF (fun hA=>?_)
    rotate_left
    ·intro wS hSw;(try dsimp only at hSw);obtain ⟨s1,s2⟩:=hSw;(go_simp;try with_reducible rfl)
    try simp only [sA1,sA2,sA3,Act.put,sA4,sA5,sA6]
    refine wpAnyN_take (i:=9) (v:=?_) hA rfl (by decide) (by kernel_rfl) (by kernel_rfl) (fun _ _ _ h=>h) (Or.inl ⟨by rfl,?_⟩) hF (fun hA=>?_)
    rotate_left
    ·intro wS hSw;(try dsimp only at hSw);obtain ⟨s1,s2⟩:=hSw;(go_simp;try with_reducible rfl)
    try simp only [sA1,sA2,sA3,Act.put,sA4,sA5,sA6]
    refine wpAnyN_take (i:=10) (v:=?_) hA rfl (by decide) (by kernel_rfl) (by kernel_rfl) (fun _ _ _ h=>h) (Or.inl ⟨by rfl,?_⟩) hF (fun hA=>?_)
    rotate_left
    ·intro wS hSw;(try dsimp only at hSw);obtain ⟨s1,s2⟩:=hSw;(go_simp;try with_reducible rfl)
    try simp only [sA1,sA2,sA3,Act.put,sA4,sA5,sA6]
    refine wpAnyN_take (i:=11) (v:=?_) hA rfl (by decide) (by kernel_rfl) (by kernel_rfl) (fun _ _ _ h=>h) (Or.inl ⟨by rfl,?_⟩) hF (fun hA=>?_)
    rotate_left
    ·intro wS hSw;(try dsimp only at hSw);obtain ⟨s1,s2⟩:=hSw;(go_simp;try with_reducible rfl)
    try simp only [sA1,sA2,sA3,Act.put,sA4,sA5,sA6]
    have hps:w3.heap.size < wr.heap.size:=Blk.lt hMk
    refine wpAnyN_one (i:=12) hA (by kernel_rfl) (by decide) rfl (fun K hK=>?_)
    go_simp
    have FA:Fr noB wr (wr.alloc (.cells #[.int .i64 (i4:Int)] 3)).drew:=((Fr.refl noB wr).alloc _).drew
    refine hK.out _ _ ⟨(World.cell?_of_block (a:=⟨w3.heap.size,2,none⟩) (FA.block _ hps (by simp [noB]))).trans c2,HST.out _ FA.any⟩ (fun hA=>?_)
    clear hK K
    refine wpAnyN_one (i:=13) hA (by kernel_rfl) (by decide) rfl (fun K hK=>?_)
    refine step_appI w _ rfl _ _ rfl G _ cG (g0 key) rfl rfl (own_fr hoG FA (fun _ _=>by simp [noB])) (some ⟨wr.heap.size,0,none⟩) 1 1 [i4] rfl (Sl.new _ _ _) rfl (by simp only [List.length_cons,List.length_nil];omega) (Nat.le_trans hW.size FA.size) ?_
    intro A2 k2 w4 hc2 hm2 ho2 hg2 hb2
    have FB:Fr (fun b=>G.map (·.block) = some b) wr w4:=(FA.any (M:=fun b=>G.map (·.block) = some b)).trans (Fr.ofGrown (M:=fun b=>G.map (·.block) = some b) hg2 (fun _ h=>h)) (fun _ _ h=>h)
    have hGp:¬ (G.map (·.block) = some w3.heap.size):=fun e=>hMk.ne_own hoG (by decide) _ (by rw [ownBlock_slice];exact e) rfl
    refine hK.out _ _ ⟨(World.cell?_of_block (a:=⟨w3.heap.size,2,none⟩) (FB.block _ hps hGp)).trans c2,HST.out _ FB⟩ (fun hA=>?_)
    clear hK K
    obtain ⟨w5,hrun,hP5,hF5⟩:=HP.out w4 A2 k2 i4 FB ho2 (hb2.imp id (fun h b hb=>by rw [h] at hb;injection hb with hb;subst hb;exact FA.size))
    refine wpAnyN_end rfl (by kernel_rfl) ?_
    simp only [List.drop_succ_cons,List.drop_zero]
    refine wpList_put rfl _ _ _ 112 rfl w2.heap.size kv _ rfl rfl rfl hrun ?_
    have F5:Fr (fun b=>G.map (·.block) = some b ∨ b = w2.heap.size) wr w5:=(FB.mono (M':=fun b=>G.map (·.block) = some b ∨ b = w2.heap.size) (fun _ h=>.inl h)).trans hF5 (fun _ _ h=>.inr h)
    obtain ⟨fm,hMap,_⟩:=hPl.ex
    have hGr:w3.heap.size ≠ w2.heap.size:=by
     intro e
     obtain ⟨es,clk,hh,_⟩:=hMap
     have:=hMk
     unfold MkB Blk at this
     rw [e,hh] at this
     cases this
    have hMk5:=Blk.fr hMk F5 (fun h=>h.elim hGp hGr)
    have hO5:OwnBt w w5 A3 k3 told:=own_fr hO F5 (fun b hb h=>h.elim (fun h=>own_own_ne hO hoG (by decide) b hb (by rw [ownBlock_slice];exact h)) (fun h=>mapF_ne_own hMap hO b hb h))
    have hD5:OwnBt w w5 A1 k1 told:=own_fr hD F5 (fun b hb h=>h.elim (fun h=>own_own_ne hD hoG (by decide) b hb (by rw [ownBlock_slice];exact h)) (fun h=>mapF_ne_own hMap hD b hb h))
    clear hrun lkd hlk hcv c2
    go_wp2
    go_roundg (base.length + 4 - 4 * (n + 1))
    case measure=>have:=HI4.out;omega
    case rel=>exact ⟨n + 1,by have:=HI4.out;subst this;go_num,.inr (by have:=HI4.out;omega),rfl,by rw [HN.out];exact hP5,hMk5,hO5,hD5⟩
   ·have HN:=Lib.hid (hnext.trans (if_neg h4))
    have h4':decide (((plcN base n (keyAt base (4 * n))).length:Int) < 4) = false:=by simp;omega
    clear hnext hput hst
    generalize keyAt base (4 * n) = key at *
    generalize hi4:4 * n = i4 at *
    have HI4:=Lib.hid hi4
    clear hi4
    go_wp2
    go_roundg (base.length + 4 - 4 * (n + 1))
    case measure=>have:=HI4.out;omega
    case rel=>exact ⟨n + 1,by have:=HI4.out;subst this;go_num,.inr (by have:=HI4.out;omega),rfl,by rw [HN.out];exact hPl,hMk,hO,hD⟩
  ·have e2:decide (((4 * n:Nat):Int) + 8 ≤ (base.length:Int)) = false:=by simp;omega
   obtain rfl:n = rounds base.length:=rounds_is _ _ hn (by omega)
   have hpl:=plc_all base
   obtain ⟨g,hg⟩:∃ g,g = plcN base (rounds base.length):=⟨_,rfl⟩
   rw [← hg] at hPl hpl
   have HG:=Lib.hid hg
   have HPL:=Lib.hid hpl
   clear hg hpl
   have hb5:4 * rounds base.length ≤ 1000000004:=by omega
   generalize hi4:4 * rounds base.length = i4 at *
   clear hi4 hn
   go_wp2
   go_loopg [11] target.length (fun gk av wr=>Mk2 w w3.heap.size w2.heap.size A cb base T ct target g A1 k1 told (madeL base target) gk av wr)
   case atStart =>
    exact ⟨0,0,target.length,told,A3,k3,rfl,Nat.zero_le _,rfl,Nat.le_refl _,Nat.le_refl _,by omega,hPl,hMk,own_capB hO,Sl.own hO,(fun a ha=>hMk.ne_own hO (by decide) a.block (by rw [ownBlock_slice,ha];rfl)),Sl.own hD,by rw [HG.out,HT.out];rfl⟩
   case round =>
    clear hPl hMk hO hD hW c2
    obtain ⟨at_,own,f,out,O,co,rfl,hat,rfl,hown,hfu,hlen,hPl,hMk,hco,hO,hoff,hD,HL⟩:=hrel
    have hW:=hPl.fr
    have hA':=hA.fr0 hW
    have hT':=hT.fr0 hW
    by_cases hlt:at_ < target.length
    ·obtain ⟨f,rfl⟩:∃ k,f = k + 1:=⟨f - 1,by omega⟩
     obtain ⟨q,n,hs⟩:∃ q n,lg base target g at_ = (q,n):=⟨_,_,rfl⟩
     have hpc:=lg_piece base target g at_ (fun k=>(HPL.out k).2)
     rw [hs] at hpc
     have HS:=Lib.hid hs
     clear hs
     have HGX:Hid (∀ k,(g k).length ≤ 4 ∧ ∀ x ∈ g k,x ≤ 140737488351232):=fun k=>⟨(HPL.out k).1,fun x hx=>by have:=((HPL.out k).2 x hx).1;omega⟩
     by_cases h0:n = 0
     ·subst h0
      clear hpc
      have HN:=HL.out.trans (mkLd_skip base target g f at_ own out hlt (by rw [HS.out]))
      have HL2:=Lib.hid HN
      clear HN HL
      go_wp2_with (go_at_call 68;refine (longest_eq w _ w3.heap.size A cb base T ct target w2.heap.size O out.length co own at_ g hMk hA' hT' hPl (by omega) h1 hct HGX.out hat (q,0) HS.out).mono ?_;rintro e w4 ⟨rfl,hf4⟩)
      go_roundg (target.length - (at_ + 1))
      case measure=>omega
      case rel=>exact ⟨at_ + 1,own,f,out,O,co,by go_num,by omega,rfl,by omega,by omega,by omega,hPl.fr0 hf4,Blk.fr hMk hf4 (by simp [noB]),hco,hO.fr0 hf4,hoff,hD.fr0 hf4,HL2⟩
     ·have hpc2:8 ≤ n ∧ q + n ≤ base.length ∧ at_ + n ≤ target.length:=by
       rcases hpc with h | ⟨a,b,c,_⟩
       ·injection h with _ h;exact absurd h h0
       ·exact ⟨a,b,c⟩
      obtain ⟨p1,p2,p3⟩:=hpc2
      clear hpc
      have HN:=HL.out.trans (mkLd_copy base target g f at_ own out hlt q n HS.out h0)
      obtain ⟨o1,ho1⟩:∃ x,x = flushF target out own at_:=⟨_,rfl⟩
      obtain ⟨o2,ho2⟩:∃ x,x = o1 ++ numB (2 * n + 1):=⟨_,rfl⟩
      obtain ⟨o3,ho3⟩:∃ x,x = o2 ++ numB q:=⟨_,rfl⟩
      have l1:o1.length ≤ out.length + 9 + (at_ - own):=by rw [ho1];exact flushF_len target out own at_ hat h1
      have l2:o2.length ≤ out.length + 18 + (at_ - own):=by rw [ho2,List.length_append];have:=numB_length (2 * n + 1) (by omega);omega
      have l3:o3.length ≤ out.length + 27 + (at_ - own):=by rw [ho3,List.length_append];have:=numB_length q (by omega);omega
      rw [← ho1,← ho2,← ho3] at HN
      have H1:=Lib.hid ho1
      have H3:=Lib.hid ho2
      have H4:=Lib.hid ho3
      have HL2:=Lib.hid HN
      clear HN HL ho1 ho2 ho3
      have k0:((n:Int) == 0) = false:=by rw [beq_eq_false_iff_ne];omega
      have tk:True:=trivial
      go_wp2_with (first
       | (go_at_call 68;refine (longest_eq w _ w3.heap.size A cb base T ct target w2.heap.size O out.length co own at_ g hMk hA' hT' hPl (by omega) h1 hct HGX.out hat (q,n) HS.out).mono ?_;rintro e w4 ⟨rfl,hf4⟩)
       | (go_at_call 69;refine (flush_to _ w3.heap.size A base.length cb T ct target (.map (some w2.heap.size)) O co out own at_ _ rfl (Blk.fr hMk hf4 (by simp [noB])) (hT'.fr0 hf4) (hO.fr0 hf4) hoff hco h1 hct (by omega) hat o1 H1.out).mono ?_;rintro e w5 ⟨O5,c5,rfl,hMk5,hc5,hO5,hoff5,hf5⟩;have x3:w5.cell? ⟨w3.heap.size,3,none⟩ = some (.slice O5 o1.length c5):=Blk.cell hMk5 3)
       | (go_at_call 23;have _t:=tk;clear tk _t;refine (enum_to _ O5 c5 o1 _ rfl hO5 (by omega) (2 * n + 1) (by omega) _ (by go_num) o2 H3.out).mono ?_;rintro e w6 ⟨O6,c6,rfl,ho6,hf6⟩)
       | (go_at_call 23;refine (enum_to _ O6 c6 o2 _ rfl (Sl.own ho6) (by omega) q (by omega) _ rfl o3 H4.out).mono ?_;rintro e w7 ⟨O7,c7,rfl,ho7,hf7⟩;have F7:Fr noB w5 w7:=hf6.step0 hf7;have b7:MkB w7 w3.heap.size A base.length cb T target.length ct (.map (some w2.heap.size)) O5 o1.length c5 at_:=Blk.fr hMk5 F7 (by simp [noB]);have y3:w7.cell? ⟨w3.heap.size,3,none⟩ = some (.slice O5 o1.length c5):=Blk.cell b7 3;have y4:w7.cell? ⟨w3.heap.size,4,none⟩ = some (.int .i64 at_):=Blk.cell b7 4;have z3:=Blk.frozen b7 3;have z4:=Blk.frozen b7 4))
      go_roundg (target.length - (at_ + n))
      case measure=>omega
      case rel =>
       have hMk4:=Blk.fr hMk hf4 (by simp [noB])
       have hp4:=Blk.lt hMk5
       have hset:=(Blk.set b7 3 (.slice O7 o3.length c7)).set 4 (.int .i64 (((at_ + n:Nat):Int)))
       have hfs:Fr (oneB w3.heap.size) w7 ((w7.setCell ⟨w3.heap.size,3,none⟩ (.slice O7 o3.length c7)).setCell ⟨w3.heap.size,4,none⟩ (.int .i64 (((at_ + n:Nat):Int)))) :=
        ((Fr.refl (oneB w3.heap.size) w7).setCell (p:=⟨w3.heap.size,3,none⟩) (fun _=>rfl) _).setCell (p:=⟨w3.heap.size,4,none⟩) (fun _=>rfl) _
       have hoff7:Off O7 (fun b=>b ≠ w3.heap.size):=fun a ha=>by
        have h1:=(ho7.lt a.block (by rw [ownBlock_slice,ha];rfl)).1
        have h2:=hf6.size
        omega
       have hnb:=fun (O:Option Addr) (no co own:Nat)=>mkB_noByte A base.length cb T target.length ct (.map (some w2.heap.size)) (fun n h=>by cases h) O no co own
       exact ⟨at_ + n,at_ + n,f,o3,O7,c7,by go_num,by omega,rfl,Nat.le_refl _,by omega,by omega,((((hPl.fr0 hf4).frB hMk4 (by decide) hf5 hpw).fr0 F7).frB b7 (by decide) hfs hpw),by unfold MkB;simpa using hset,own_capB (w0:=w6) ho7,(Sl.own ho7).fr hfs (hoff7.mono (fun b hb hx=>hb hx)),hoff7,(((hD.fr0 hf4).frB hMk4 (hnb _ _ _ _) hf5).fr0 F7).frB b7 (hnb _ _ _ _) hfs,HL2⟩
    ·obtain rfl:at_ = target.length:=by omega
     have HN:=HL.out.trans (mkLd_end base target g f target.length own out (by omega))
     obtain ⟨o1,ho1⟩:∃ x,x = flushF target out own target.length:=⟨_,rfl⟩
     have hmo:madeO base target = o1:=by rw [ho1,madeO,HN]
     obtain ⟨o2,ho2⟩:∃ x,x = told ++ numB (2 * target.length):=⟨_,rfl⟩
     have l1:o1.length ≤ out.length + 9 + (target.length - own):=by rw [ho1];exact flushF_len target out own target.length hat h1
     have l2:o2.length ≤ 18:=by rw [ho2,List.length_append];have:=numB_length (2 * target.length) (by omega);omega
     have hpd:plainD target = o2 ++ target:=by rw [ho2,HT.out];rfl
     have H1:=Lib.hid ho1
     have H3:=Lib.hid ho2
     have HMO:=Lib.hid hmo
     have HPD:=Lib.hid hpd
     clear HN HL ho1 ho2 hmo hpd
     have e3:¬ ((target.length:Int) < (target.length:Int)):=by omega
     go_wp2_with (first
      | (go_at_call 69;refine (flush_to _ w3.heap.size A base.length cb T ct target (.map (some w2.heap.size)) O co out own target.length _ rfl hMk hT' hO hoff hco h1 hct (by omega) hat o1 H1.out).mono ?_;rintro e w5 ⟨O5,c5,rfl,hMk5,hc5,hO5,hoff5,hf5⟩)
      | (go_at_call 23;refine (enum_to _ A1 k1 told _ rfl (hD.frB hMk (mkB_noByte A base.length cb T target.length ct (.map (some w2.heap.size)) (fun n h=>by cases h) _ _ _ _) hf5) (by omega) (2 * target.length) (by omega) _ (by go_num) o2 H3.out).mono ?_;rintro e w6 ⟨O6,c6,rfl,ho6,hf6⟩)
      | (at_builtin;refine wpList_appC w5 _ rfl (.tmp 125) (.tmp 126) rfl O6 _ c6 o2 rfl rfl ho6 T _ _ target rfl ((hT'.frB hMk (mkB_noByte A base.length cb T target.length ct (.map (some w2.heap.size)) (fun n h=>by cases h) _ _ _ _) hf5).fr0 hf6) rfl (by omega) hf6.size ?_;intro A8 k8 w8 hc8 hm8 ho8 hg8 hb8;have F8:=own_grow ho6 hf6 hg8;have b8:MkB w8 w3.heap.size A base.length cb T target.length ct (.map (some w2.heap.size)) O5 o1.length c5 target.length:=Blk.fr hMk5 F8 (by simp [noB]);have y3:w8.cell? ⟨w3.heap.size,3,none⟩ = some (.slice O5 o1.length c5):=Blk.cell b8 3;have HC8:=Lib.hid hc8;clear hc8;have HL8:=Lib.hid (List.length_append:(o2 ++ target).length = o2.length + target.length);generalize o2 ++ target = o8 at *))
     all_goals
      have FW:Fr noB w w8:=(hW.step1 hf5 hpw).step0 F8
      first
       | (have hr:res = .ok o8:=by rw [HR.out,HMO.out,HPD.out,if_pos (by assumption)]
          subst hr
          go_ret2
          exact ⟨A8,k8,rfl,HC8.out,Sl.own ho8,FW⟩)
       | (have hr:res = .ok o1:=by rw [HR.out,HMO.out,HPD.out,if_neg (by assumption)]
          subst hr
          go_ret2
          exact ⟨O5,c5,rfl,hc5,hO5.fr0 F8,FW⟩)
theorem make_any (w:World) (A T:Option Addr) (cb ct:Nat) (base target:List UInt8) (hA:Sl w A (bv base)) (hT:Sl w T (bv target)) (hcb:base.length ≤ cb) (hct:target.length ≤ ct) (hAn:A = none → cb = 0)
  (hb:base.length ≤ 1000000000) (m:Int) (hm:w.cell? ⟨0,0,none⟩ = some (.int .i64 m)) (hw0:0 < w.heap.size) :
  Calls Try.prog 46 #[.slice A base.length cb,.slice T target.length ct] w (MakeTo w (makeD base target)):=by
 by_cases h1:1048576 < target.length
 ·exact make_long w A T cb ct base target h1
 by_cases h2:target = []
 ·subst h2;exact make_none w A T cb ct base
 have hpos:0 < target.length:=by
  rcases Nat.eq_zero_or_pos target.length with h | h
  ·exact absurd (List.eq_nil_of_length_eq_zero h) h2
  ·exact h
 unfold makeD
 rw [if_neg h1,if_neg h2]
 rcases index_two base target h2 with hi | ⟨i,hi,hi2,_⟩
 ·rw [if_neg (by omega)]
  exact make_parts w A T cb ct base target hA hT hcb hct hAn hb m hm hw0 (by omega) hpos hi
 ·rw [if_pos (by omega),hi,show (i:Int).toNat = i by omega]
  exact make_whole w A T cb ct base target hA hT hcb hct hAn hb m hm hw0 (by omega) hpos i hi (by omega)
theorem make_n (w:World) (A T:Option Addr) (cb ct:Nat) (base target:List UInt8) (n k:Nat) (hn:base.length = n) (hk:target.length = k) (hA:Sl w A (bv base)) (hT:Sl w T (bv target)) (hcb:base.length ≤ cb) (hct:target.length ≤ ct) (hAn:A = none → cb = 0)
  (hb:base.length ≤ 1000000000) (m:Int) (hm:w.cell? ⟨0,0,none⟩ = some (.int .i64 m)) (hw0:0 < w.heap.size) :
  Calls Try.prog 46 #[.slice A n cb,.slice T k ct] w (MakeTo w (makeD base target)):=by
 subst hn hk
 exact make_any w A T cb ct base target hA hT hcb hct hAn hb m hm hw0
end Go.Proofs.Ytahllkifmmjbdaa
