/- Contract: stamp.Get. Contract: obj.getItem. Contracts: bytes.Clone, obj.Blob, obj.Label. Contract: obj.Dir. Contract: obj.Change. Contract: obj.Kind. The frame of a law's proof over package obj's types: arguments of types api.Stamp, api.Head, api.Op, api.Item, api.Change, api.Label and slices of them, opened. -/
import Derived.Test.YtnkdnbjmhoegkaaGreatRBoxKp
import Derived.Deep.LoopGhost
import Derived.Test.YtnkdnbjmhoegkaaGreatShelfKp
import Derived.Test.YtnkdnbjmhoegkaaGreatRdQKp
import Derived.Test.YtnkdnbjmhoegkaaGreatRows
import Derived.WalkKit
import Derived.ProofKit
import Derived.OpenShut
import Derived.ShutString
import Derived.ChangeOld
import Derived.Below
import Derived.SizedLaws
import Derived.Deep.Slices
set_option linter.unusedVariables false
set_option linter.unusedSimpArgs false
namespace Go.Proofs.YtnkdnbjmhoegkaaGreat
open Go.RowKit
theorem rdTake_le (n:Nat) (s:RS):(rdTake n s).1.length ≤ n:=by
 unfold rdTake
 split
 ·exact Nat.zero_le _
 ·simp;omega
theorem rdText_le (most:Nat) (s:RS):(rdText most s).1.length ≤ most:=Nat.le_trans (rdTake_le _ _) (rdNum_bd most s).1
theorem rdAll_len {α:Type} {f:RS → α × RS} (hf:∀ s,(f s).2.1.length ≤ s.1.length):∀ (n:Nat) (s:RS),(rdAll f n s).1.length = n ∧ (rdAll f n s).2.1.length ≤ s.1.length
 | 0,s=>⟨rfl,Nat.le_refl _⟩
 | n + 1,s=>by
  have:=rdAll_len hf n (f s).2
  simp only [rdAll,List.length_cons]
  exact ⟨by rw [this.1],Nat.le_trans this.2 (hf s)⟩
end Go.Proofs.YtnkdnbjmhoegkaaGreat
namespace Go.Proofs.YtnkdnbjmhoegkaaGreat
open Go.RowKit
theorem RB.other {α:Type} {C:Cod α} {M:Nat → Prop} {W w w':World} {p R P H:Nat} {s:RS} {Q:Nat → Prop} {z r:α} (h:RB C M W w p R P s Q z r) (f:Fr (oneB H) w w') (hH:W.heap.size ≤ H) (n1:p ≠ H) (n2:R ≠ H) (n3:P ≠ H) (n4:∀ b,Q b → b ≠ H):RB C M W w' p R P s Q z r :=
 ⟨h.rd.fr f n1 n4,Cod.bxd_fr h.rs f n2,Cod.bxd_fr h.bx f n3,h.fr.step1 f hH,h.mp,h.RW,h.PW,h.ne1,h.ne2,h.ne3,h.q1,h.qp⟩
theorem own_lt {w:World} {base:Nat} {e:TypeId} {size n c:Nat} {A:Option Addr} {xs:List Value} (h:w.ownsRow base e size (.slice A n c) n xs) (g:Nat) (hg:A.map (·.block) = some g):base ≤ g ∧ g < w.heap.size:=by
 have:=h.lt g (by rw [ownBlock_sl'];exact hg)
 exact this
def GotT (w:World) (p:Nat) (s:RS) (Q:Nat → Prop) (e:Ending) (w':World):Prop :=
 ∃ r,e = .returned (.agg (codT.A r)) ∧ ItIn w' r (rdIt s).1 ∧ w'.ownsRow w.heap.size 49 34 (.slice r.A r.n r.c) r.n (codH.row (rdIt s).1.Heads) ∧ Rdr w' p (rdIt s).2 Q ∧ Fr (oneB p) w w'
theorem rdHd_len (s:RS):(rdHd s).2.1.length ≤ s.1.length:=Nat.le_trans (rdId_len _) (rdSt_len _)
theorem rdMany_len {α:Type} {f:RS → α × RS} (hf:∀ s,(f s).2.1.length ≤ s.1.length):∀ (n:Nat) (s:RS),(rdMany f n s).1.length ≤ n ∧ (rdMany f n s).2.1.length ≤ s.1.length
 | 0,s=>⟨Nat.le_refl _,Nat.le_refl _⟩
 | n + 1,s=>by
  have:=rdMany_len hf n (f s).2
  simp only [rdMany]
  split
  ·exact ⟨by simp,hf s⟩
  ·exact ⟨by simp only [List.length_cons];omega,Nat.le_trans this.2 (hf s)⟩
theorem rdMany_step {α:Type} (f:RS → α × RS) (n:Nat) (l:List α) (s s':RS) (x:α) (h:f s = (x,s')) (hb:s'.2 = false):(l ++ (rdMany f (n + 1) s).1,(rdMany f (n + 1) s).2) = ((l ++ [x]) ++ (rdMany f n s').1,(rdMany f n s').2):=by
 simp only [rdMany,h,hb,Bool.false_eq_true,if_false,List.append_assoc,List.singleton_append]
theorem rdMany_stop {α:Type} (f:RS → α × RS) (n:Nat) (l:List α) (s s':RS) (x:α) (h:f s = (x,s')) (hb:s'.2 = true):(l ++ (rdMany f (n + 1) s).1,(rdMany f (n + 1) s).2) = (l ++ [x],s'):=by
 simp only [rdMany,h,hb,if_true]
def GtR (M:Nat → Prop) (W:World) (p R P n mx:Nat) (Q:Nat → Prop) (z r:ItW) (tot:List Hd × RS) (gk:Nat) (iv:Value) (wr:World):Prop :=
 ∃ (k:Nat) (l:List Hd) (s:RS) (A:Option Addr) (c:Nat),iv = .int .i64 (k:Int) ∧ gk = n - k ∧ k ≤ n ∧ l.length = k ∧ s.1.length ≤ mx ∧ RB codT M W wr p R P s Q z { r with A:=A,n:=l.length,c:=c } ∧ OwnC codH W wr A c l ∧ tot = (l ++ (rdMany rdHd (n - k) s).1,(rdMany rdHd (n - k) s).2)
set_option maxRecDepth 100000 in
set_option maxHeartbeats 8000000 in
theorem getT_any (w:World) (p:Nat) (s:RS) (Q:Nat → Prop) (h:Rdr w p s Q) (hQw:∀ b,Q b → b < w.heap.size) (hQp:¬ Q p) (hlen:s.1.length ≤ 140737488355328) :
  Calls Tryz.prog 58 #[.pointer (some ⟨p,0,none⟩)] w (GotT w p s Q):=by
 have lp:=h.lt
 obtain ⟨nd,s1,e1⟩:=rd_eq rdSt s
 have b1:=rdSt_len s
 rw [e1] at b1
 obtain ⟨a,s2,e2⟩:=rd_eq rdSt s1
 have b2:=rdSt_len s1
 rw [e2] at b2
 obtain ⟨nm,s3,e3⟩:=rd_eq (rdText 60) s2
 have b3:=rdText_len 60 s2
 have c3:=rdText_le 60 s2
 rw [e3] at b3 c3
 obtain ⟨sb,s4,e4⟩:=rd_eq rdId s3
 have b4:=rdId_len s3
 rw [e4] at b4
 obtain ⟨n,s5,e5⟩:=rd_eq (rdNum 1000) s4
 have b5:=rdNum_bd 1000 s4
 rw [e5] at b5
 simp only at b1 b2 b3 b4 b5 c3
 have m1:s1.1.length ≤ 140737488355328:=by omega
 have m2:s2.1.length ≤ 140737488355328:=by omega
 have m3:s3.1.length ≤ 140737488355328:=by omega
 have m4:s4.1.length ≤ 140737488355328:=by omega
 have m5:s5.1.length ≤ 140737488355328:=by omega
 have n64:n ≤ 1000:=b5.1
 obtain ⟨tot,htot⟩:∃ tot,tot = rdMany rdHd n s5:=⟨_,rfl⟩
 have hIt:rdIt s = (⟨nd,a,nm,sb,tot.1⟩,tot.2):=by
  unfold rdIt
  rw [e1]
  dsimp only
  rw [e2]
  dsimp only
  rw [e3]
  dsimp only
  rw [e4]
  dsimp only
  rw [e5]
  dsimp only
  rw [htot]
 have HI:=Lib.hid hIt
 have HT:=Lib.hid htot
 have C3:=Lib.hid c3
 have f0:Fr noB w (w.alloc (codT.o zItW)):=(Fr.refl noB w).alloc _
 have h0:Rdr (w.alloc (codT.o zItW)) p s Q:=h.fr f0 (by simp [noB]) (fun _ _=>by simp [noB])
 have q0:codT.bxd (w.alloc (codT.o zItW)) w.heap.size = some zItW:=Cod.bxd_new _ _
 have E1:=Lib.hid e1
 have E2:=Lib.hid e2
 have E3:=Lib.hid e3
 have E4:=Lib.hid e4
 have E5:=Lib.hid e5
 clear e1 e2 e3 e4 e5 b1 b2 b3 b4 b5 c3 h hIt htot
 go_enter Tryz.func58,Tryz.ntmps58
 go_upto_region 1 with fail
 generalize w.alloc (codT.o zItW) = w0 at f0 q0 h0 ⊢
 have hRp:p ≠ w.heap.size:=by omega
 have hQR:∀ b,Q b → b ≠ w.heap.size:=fun b hb=>by have:=hQw b hb;omega
 generalize hRe:w.heap.size = R at q0 hRp hQR ⊢
 have hRw:w.heap.size ≤ R:=by omega
 have hQ0:∀ b,Q b → b < w0.heap.size:=fun b h=>Nat.lt_of_lt_of_le (hQw b h) f0.size
 go_wp2_with fail
 go_at_call 91
 refine (oget_z w0 p s Q h0 hQ0 hlen nd s1 E1.out).mono ?_
 rintro e w1 ⟨rfl,hr1,hf1⟩
 have q1:=Cod.bxd_fr q0 hf1 (fun e=>hRp (by have:R = p:=e;exact this.symm))
 have fn:Fr noB w1 (w1.alloc (codT.o { zItW with Node:=nd })):=(Fr.refl noB w1).alloc _
 have hb:RB codT (oneB p) w (w1.alloc (codT.o { zItW with Node:=nd })) p R w1.heap.size s1 Q zItW { zItW with Node:=nd } :=
  ⟨hr1.fr fn (by simp [noB]) (by simp [noB]),Cod.bxd_fr0 q1 fn,Cod.bxd_new _ _,((f0.any.trans hf1 (fun b _ h=>h)).step0 fn),fun _=>rfl,hRw,Nat.le_trans f0.size hf1.size,
   by have:=Cod.bxd_lt q1;omega,hRp,by have:=hr1.lt;omega,fun b hb=>⟨hQR b hb,by have:=hQ0 b hb;have:=hf1.size;omega⟩,hQp⟩
 clear hr1 hf1 q0 q1 f0 h0 hRp hQR hRw
 go_upto_region 2 with fail
 generalize w1.alloc (codT.o { zItW with Node:=nd }) = W at hb fn ⊢
 generalize w1.heap.size = P at hb ⊢
 clear fn
 go_upto_region 3 with (go_at_call 91;refine (oget_z _ p _ Q hb.rd (fun b h=>Nat.lt_of_lt_of_le (hQw b h) hb.fr.size) m1 _ _ E2.out).mono ?_;rintro e wz ⟨rfl,hr,hf⟩;replace hb:=hb.call hr hf;have hst:=stT_At hb.bx a;replace hb:=hb.put { zItW with Node:=nd,At:=a };clear hr hf)
 clear hst
 generalize codT.put wz P _ = W at hb ⊢
 have k3:=(itAt (Cod.bxd_rd hb.bx)).name
 have k4:=(Cod.bxd_blk hb.bx).frozen 4
 go_upto_region 4 with (go_at_call 92;refine (rtext_z _ p _ Q hb.rd hQp m2 60 60 rfl (by decide) _ _ E3.out).mono ?_;rintro e wz ⟨rfl,hr,hf⟩;replace hb:=hb.call hr hf;have k3:=(itAt (Cod.bxd_rd hb.bx)).name;have k4:=(Cod.bxd_blk hb.bx).frozen 4)
 replace hb:=hb.set 4 (.string (str nm)) { zItW with Node:=nd,At:=a,Name:=nm } (seT_Name _ nm)
 clear k3 k4
 generalize World.setCell _ _ _ = W at hb ⊢
 go_upto_region 5 with (go_at_call 93;refine (rid_z _ p _ Q hb.rd hQp (fun b h=>Nat.lt_of_lt_of_le (hQw b h) hb.fr.size) m3 _ _ E4.out).mono ?_;rintro e wz ⟨rfl,hr,hf⟩;replace hb:=hb.call hr hf;have hst:=stT_Sub hb.bx sb;replace hb:=hb.put { zItW with Node:=nd,At:=a,Name:=nm,Sub:=sb };clear hr hf)
 clear hst
 generalize hr0:({ zItW with Node:=nd,At:=a,Name:=nm,Sub:=sb }:ItW) = r0 at hb ⊢
 have R0:=Lib.hid hr0.symm
 clear hr0
 generalize codT.put _ P r0 = W at hb ⊢
 go_wp2_with (go_at_call 57;refine (num_z _ p _ Q 1000 1000 rfl (by decide) hb.rd m4 n s5 E5.out).mono ?_;rintro e wz ⟨rfl,hr,hf⟩;replace hb:=hb.call hr hf;clear hr hf)
 go_loopg [19] n (fun gk iv wr=>GtR (oneB p) w p R P n 140737488355328 Q zItW r0 tot gk iv wr)
 case atStart=>exact ⟨0,[],s5,none,0,rfl,by omega,by omega,rfl,m5,by
  have e:({ r0 with A:=none,n:=([]:List Hd).length,c:=0 }:ItW) = r0:=by rw [R0.out];rfl
  rw [e];exact hb,World.ownsRow_nil _ _ _ _,by rw [HT.out];simp⟩
 case round =>
  obtain ⟨k,l,sk,A,c,rfl,rfl,hk,hl,hmx,hb,ho,htot⟩:=hrel
  by_cases hlt:k < n
  ·have i1:(k:Int) < (n:Int):=by omega
   obtain ⟨xa,sa,ea⟩:=rd_eq rdSt sk
   have ba:=rdSt_len sk
   rw [ea] at ba
   obtain ⟨xd,sn,ed⟩:=rd_eq rdId sa
   have bd:=rdId_len sa
   rw [ed] at bd
   simp only at ba bd
   have hma:sa.1.length ≤ 140737488355328:=Nat.le_trans ba hmx
   have hmn:sn.1.length ≤ 140737488355328:=Nat.le_trans bd hma
   obtain ⟨x,hx⟩:∃ x:Hd,x = { zHd with At:=xa,Data:=xd }:=⟨_,rfl⟩
   have ex:rdHd sk = (x,sn):=by
    unfold rdHd
    rw [ea]
    dsimp only
    rw [ed,hx]
   have EA:=Lib.hid ea
   have ED:=Lib.hid ed
   have EX:=Lib.hid ex
   have HT2:=Lib.hid htot
   have HL:=Lib.hid hl
   have HX:=Lib.hid hx
   clear ex htot hl ea ed ba bd hx
   go_upto_region 8 with (go_at_call 91;refine (oget_z _ p _ Q hb.rd (fun b h=>Nat.lt_of_lt_of_le (hQw b h) hb.fr.size) hmx _ _ EA.out).mono ?_;rintro e wz ⟨rfl,hr,hf⟩;replace ho:=hb.own_call ho (by decide) hf;replace hb:=hb.call hr hf;clear hr hf)
   have fn:Fr noB wz (wz.alloc (codH.o { zHd with At:=xa })):=(Fr.refl noB wz).alloc _
   have hH:codH.bxd (wz.alloc (codH.o { zHd with At:=xa })) wz.heap.size = some { zHd with At:=xa }:=Cod.bxd_new _ _
   have nA:∀ g,A.map (·.block) = some g → g ≠ wz.heap.size:=fun g hg=>by have:=(own_lt ho g hg).2;omega
   have n1:p ≠ wz.heap.size:=by have:=hb.rd.lt;omega
   have n2:R ≠ wz.heap.size:=by have:=Cod.bxd_lt hb.rs;omega
   have n3:P ≠ wz.heap.size:=by have:=Cod.bxd_lt hb.bx;omega
   have n4:∀ b,Q b → b ≠ wz.heap.size:=fun b hb'=>by have:=hQw b hb';have:=hb.fr.size;omega
   have n5:w.heap.size ≤ wz.heap.size:=hb.fr.size
   replace hb:=hb.new fn
   replace ho:=own_new0 ho fn
   clear fn
   generalize wz.alloc (codH.o { zHd with At:=xa }) = W1 at hb ho hH ⊢
   generalize wz.heap.size = H at nA n1 n2 n3 n4 n5 hH ⊢
   go_upto_region 9 with (go_at_call 93;refine (rid_z _ p _ Q hb.rd hQp (fun b h=>Nat.lt_of_lt_of_le (hQw b h) hb.fr.size) hma _ _ ED.out).mono ?_;rintro e wz ⟨rfl,hr,hf⟩;replace ho:=hb.own_call ho (by decide) hf;replace hb:=hb.call hr hf;replace hH:=Cod.bxd_fr hH hf (fun e=>n1 (by have:H = p:=e;exact this.symm));have hst:=stH_Data hH xd;clear hr hf)
   clear hst
   obtain ⟨g1,g2,g3⟩:=Cod.put_fr hH { zHd with At:=xa,Data:=xd }
   replace hb:=hb.other g1 n5 n1 n2 n3 n4
   replace ho:=own_fr ho g1 (fun g hg e=>nA g (by rw [ownBlock_sl'] at hg;exact hg) e)
   clear g1 g2 hH
   have hHx:=HX.out
   rw [show ({ zHd with At:=xa,Data:=xd }:Hd) = x from hHx.symm] at hb ho g3 ⊢
   clear hHx
   generalize codH.put _ H x = W2 at hb ho g3 ⊢
   have kH:=Cod.bxd_rd g3
   have k37:=(itAt (Cod.bxd_rd hb.bx)).heads
   have fn:Fr noB W2 (W2.alloc (codH.ro [x])):=(Fr.refl noB W2).alloc _
   have sl:=Cod.sl_new (C:=codH) W2 [x]
   replace hb:=hb.new fn
   replace ho:=own_new0 ho fn
   clear fn g3
   have HLT:=Lib.hid hlt
   have hqA:∀ b,Q b → A.map (·.block) ≠ some b:=fun b hb' e=>by
    have h1:=(own_lt ho b e).1
    have h2:=hQw b hb'
    omega
   clear hlt
   go_upto_region 10 with (at_builtin;refine wpList_appC' etH w _ rfl _ _ rfl A l.length c l rfl rfl ho (some ⟨W2.heap.size,0,none⟩) 1 1 [x] rfl sl rfl (by have:=HL.out;have:=HLT.out;simp;omega) hb.fr.size ?_;intro A5 c5 w5 hc5 hm5 ho5 hg5 hA5;replace hb:=hb.grow ho (by decide) (by decide) hqA hg5;obtain ⟨l',hl'⟩:∃ l',l' = l ++ [x]:=⟨_,rfl⟩;rw [← hl'] at ho5 ⊢;have HL':=Lib.hid hl';clear hl';have k38:=(itAt (Cod.bxd_rd hb.bx)).heads;have k39:=(Cod.bxd_blk hb.bx).frozen 37)
   have ho6:=hb.own_turn ho5 (by decide) (Cod.set_fr w5 P 37 (.slice A5 l'.length c5))
   replace hb:=hb.set 37 (.slice A5 l'.length c5) _ (seT_Heads _ A5 _ c5)
   clear k37 k38 k39 kH sl ho hg5 ho5 hA5
   generalize World.setCell _ _ _ = W3 at hb ho6 ⊢
   have hll:l'.length = k + 1:=by rw [HL'.out];simp [HL.out]
   have hlt:=HLT.out
   by_cases hgb:sn.2 = true
   ·have HR:=Lib.hid (show rdIt s = (⟨nd,a,nm,sb,l'⟩,sn) by
     rw [HI.out,HT2.out,show n - k = n - (k + 1) + 1 by omega,rdMany_stop _ _ _ _ _ _ EX.out hgb,HL'.out])
    obtain ⟨rF,hrF⟩:∃ rF:ItW,rF = { r0 with A:=A5,n:=l'.length,c:=c5 }:=⟨_,rfl⟩
    have hin:ItIn W3 rF ⟨nd,a,nm,sb,l'⟩:=by
     rw [hrF,R0.out]
     exact ⟨rfl,rfl,Sl.own ho6,by simp only;omega,by have:=C3.out;simp only;omega⟩
    have hown:(W3).ownsRow w.heap.size 49 34 (.slice rF.A rF.n rF.c) rF.n (codH.row l'):=by
     rw [hrF]
     exact ho6
    have hbF:=hb
    rw [← hrF] at hbF
    have k5:=Cod.bxd_rd hbF.bx
    have hrs2:=okT.stR_box hbF.rs rF
    simp only [Cod.v] at hrs2
    clear hrF hll
    go_wp2_with (go_at_call 59;refine (good_any _ p _ Q hb.rd).mono ?_;rintro e wz ⟨rfl,rfl⟩;rw [hgb])
    have hbz:=hbF.res rF
    have ffr:=(Cod.put_fr hbF.rs rF).1
    refine bodyPost_ret (ret_row okT rfl _ _ R rF (by rfl) hbz.rs) rfl ?_
    refine ⟨rF,rfl,?_,?_,?_,hbz.fr⟩
    ·rw [HR.out]
     exact ⟨hin.eq,hin.len,Sl.own (own_box (Cod.bxd_blk hbF.rs) hown (by decide) ffr),hin.bd,hin.nm⟩
    ·rw [HR.out]
     exact own_box (Cod.bxd_blk hbF.rs) hown (by decide) ffr
    ·rw [HR.out]
     exact hbz.rd
   ·have hgb':sn.2 = false:=by simpa using hgb
    go_wp2_with (go_at_call 59;refine (good_any _ p _ Q hb.rd).mono ?_;rintro e wz ⟨rfl,rfl⟩;rw [hgb'])
    go_roundg (n - (k + 1))
    case measure=>omega
    case rel =>
     exact ⟨k + 1,l',sn,A5,c5,by simp,rfl,by omega,hll,hmn,hb,ho6,by
      rw [HT2.out,show n - k = n - (k + 1) + 1 by omega,rdMany_step _ _ _ _ _ _ EX.out hgb',HL'.out]⟩
  ·have hkn:k = n:=by omega
   subst hkn
   have i1:¬ (k:Int) < (k:Int):=by omega
   rw [Nat.sub_self] at htot
   simp only [rdMany,List.append_nil] at htot
   have HR:=Lib.hid (show rdIt s = (⟨nd,a,nm,sb,l⟩,sk) by rw [HI.out,htot])
   have hll:l.length ≤ 1000:=by omega
   clear hl htot
   obtain ⟨rF,hrF⟩:∃ rF:ItW,rF = { r0 with A:=A,n:=l.length,c:=c }:=⟨_,rfl⟩
   have hin:ItIn wr rF ⟨nd,a,nm,sb,l⟩:=by
    rw [hrF,R0.out]
    exact ⟨rfl,rfl,Sl.own ho,by simp only;omega,by have:=C3.out;simp only;omega⟩
   have hown:(wr).ownsRow w.heap.size 49 34 (.slice rF.A rF.n rF.c) rF.n (codH.row l):=by
    rw [hrF]
    exact ho
   have hbF:=hb
   rw [← hrF] at hbF
   have k5:=Cod.bxd_rd hbF.bx
   have hrs2:=okT.stR_box hbF.rs rF
   simp only [Cod.v] at hrs2
   clear hrF hll
   go_wp2_with fail
   have hbz:=hbF.res rF
   have ffr:=(Cod.put_fr hbF.rs rF).1
   refine bodyPost_ret (ret_row okT rfl _ _ R rF (by rfl) hbz.rs) rfl ?_
   refine ⟨rF,rfl,?_,?_,?_,hbz.fr⟩
   ·rw [HR.out]
    exact ⟨hin.eq,hin.len,Sl.own (own_box (Cod.bxd_blk hbF.rs) hown (by decide) ffr),hin.bd,hin.nm⟩
   ·rw [HR.out]
    exact own_box (Cod.bxd_blk hbF.rs) hown (by decide) ffr
   ·rw [HR.out]
    exact hbz.rd
end Go.Proofs.YtnkdnbjmhoegkaaGreat
namespace Go.Proofs.YtnkdnbjmhoegkaaGreat
open Go.RowKit
theorem openR_len (l:List UInt8) (k:UInt8):(openR l k).1.length ≤ l.length:=by
 unfold openR
 split
 ·simp
 ·split <;> simp
theorem open_z (w:World) (A:Option Addr) (c n:Nat) (l:List UInt8) (hn:l.length = n) (hs:Sl w A (bv l)) (hc:l.length ≤ c) (hb:l.length ≤ 140737488355328) (k:UInt8) (z:Int) (hk:(k.toNat:Int) = z) (s:RS) (hh:openR l k = s) :
  Calls Tryz.prog 56 #[.slice A n c,.int .u8 z] w (OpenTo w s):=by
 subst hk;subst hh;exact open_any w A c n l hn hs hc hb k
end Go.Proofs.YtnkdnbjmhoegkaaGreat
namespace Go.Proofs.YtnkdnbjmhoegkaaGreat
open Go.RowKit
theorem own_two {w w':World} {b1 b2:Nat} {e1 e2:TypeId} {s1 s2 n1 n2 c1:Nat} {A:Option Addr} {v:Value} {xs ys:List Value} (h1:w.ownsRow b1 e1 s1 (.slice A n1 c1) n1 xs) (h2:w.ownsRow b2 e2 s2 v n2 ys) (hne:e1 ≠ e2) (f:Fr (fun b=>A.map (·.block) = some b) w w'):w'.ownsRow b2 e2 s2 v n2 ys:=by
 refine own_fr h2 f (fun g hg hM=>?_)
 rcases h1.2 with ⟨hv,_⟩ | ⟨g1,cap,cur,hv,hb,hgg,rest⟩
 ·injection hv with hv;subst hv;cases hM
 ·injection hv with hv;subst hv
  simp only [Option.map_some,Option.some.injEq] at hM
  subst hM
  exact Blk.ne_own (g:=g1) (t:=e1) (cs:=cur.toList) (by simpa [Blk] using hgg) h2 (fun e=>hne e.symm) g1 hg rfl
structure ItsOwn (W w:World) (rs:List ItW) (xs:List It):Prop where
 len:rs.length = xs.length
 at_:∀ i (h:i < rs.length) (h':i < xs.length),ItIn w rs[i] xs[i] ∧ w.ownsRow W.heap.size 49 34 (.slice (rs[i]).A (rs[i]).n (rs[i]).c) (rs[i]).n (codH.row (xs[i]).Heads)
theorem ItsOwn.its {W w:World} {rs:List ItW} {xs:List It} (h:ItsOwn W w rs xs):ItsIn w rs xs:=⟨h.len,fun i h1 h2=>(h.at_ i h1 h2).1⟩
theorem ItIn.of {w w':World} {r:ItW} {x:It} (h:ItIn w r x) {base:Nat} (ho:w'.ownsRow base 49 34 (.slice r.A r.n r.c) r.n (codH.row x.Heads)):ItIn w' r x:=⟨h.eq,h.len,Sl.own ho,h.bd,h.nm⟩
theorem ItsOwn.map {W w w':World} {rs:List ItW} {xs:List It} (h:ItsOwn W w rs xs) (k:∀ (v:Value) (n:Nat) (l:List Value),w.ownsRow W.heap.size 49 34 v n l → w'.ownsRow W.heap.size 49 34 v n l):ItsOwn W w' rs xs :=
 ⟨h.len,fun i h1 h2=>by
  obtain ⟨a,b⟩:=h.at_ i h1 h2
  have b':=k _ _ _ b
  exact ⟨a.of b',b'⟩⟩
theorem ItsOwn.snoc {W w:World} {rs:List ItW} {xs:List It} (h:ItsOwn W w rs xs) {r:ItW} {x:It} (hi:ItIn w r x) (ho:w.ownsRow W.heap.size 49 34 (.slice r.A r.n r.c) r.n (codH.row x.Heads)):ItsOwn W w (rs ++ [r]) (xs ++ [x]) :=
 ⟨by simp [h.len],fun i h1 h2=>by
  rcases Nat.lt_or_ge i rs.length with h3 | h3
  ·have h4:i < xs.length:=by rw [← h.len];exact h3
   rw [List.getElem_append_left h3,List.getElem_append_left h4]
   exact h.at_ i h3 h4
  ·have h5:i = rs.length:=by simp at h1;omega
   have h6:i = xs.length:=by rw [← h.len];exact h5
   have e1:(rs ++ [r])[i] = r:=by subst h5;simp
   have e2:(xs ++ [x])[i] = x:=by subst h6;simp
   rw [e1,e2]
   exact ⟨hi,ho⟩⟩
structure DS (W w:World) (p:Nat) (Q:Nat → Prop) (s:RS) (A:Option Addr) (c:Nat) (rs:List ItW) (xs:List It):Prop where
 rd:Rdr w p s Q
 fr:Fr (oneB p) W w
 own:OwnC codT W w A c rs
 its:ItsOwn W w rs xs
section
variable {W w w':World} {p:Nat} {Q:Nat → Prop} {s s':RS} {A:Option Addr} {c:Nat} {rs:List ItW} {xs:List It}
theorem DS.call (h:DS W w p Q s A c rs xs) (hr:Rdr w' p s' Q) (f:Fr (oneB p) w w'):DS W w' p Q s' A c rs xs:=by
 obtain ⟨Ar,cr,hb,_⟩:=id h.rd
 exact ⟨hr,h.fr.trans f (fun b _ h=>h),own_box hb h.own (by decide) f,h.its.map fun v n l ho=>own_box hb ho (by decide) f⟩
theorem DS.new (h:DS W w p Q s A c rs xs) (f:Fr noB w w'):DS W w' p Q s A c rs xs :=
 ⟨h.rd.fr f (by simp [noB]) (by simp [noB]),h.fr.step0 f,own_new0 h.own f,h.its.map fun v n l ho=>own_new0 ho f⟩
theorem DS.grow (h:DS W w p Q s A c rs xs) (hQ:∀ b,Q b → b < W.heap.size) (hp:p < W.heap.size) (hg:w.grownBy w' (A.map (·.block))) {A5:Option Addr} {c5:Nat} {r:ItW} {x:It} (ho5:OwnC codT W w' A5 c5 (rs ++ [r])) (hi:ItIn w r x) (hro:w.ownsRow W.heap.size 49 34 (.slice r.A r.n r.c) r.n (codH.row x.Heads)) :
  DS W w' p Q s A5 c5 (rs ++ [r]) (xs ++ [x]):=by
 have f:Fr (fun b=>A.map (·.block) = some b) w w':=Fr.ofGrown hg (fun g hg=>hg)
 have hro':=own_two h.own hro (by decide) f
 refine ⟨h.rd.fr f (fun e=>?_) (fun b hb e=>?_),h.fr.step f (fun b hb=>.inl (own_lt h.own b hb).1),ho5,(h.its.map fun v n l ho=>own_two h.own ho (by decide) f).snoc (hi.of hro') hro'⟩
 ·have:=(own_lt h.own p e).1;omega
 ·have:=(own_lt h.own b e).1;have:=hQ b hb;omega
end
def DrTo (w:World) (l:List UInt8) (e:Ending) (w':World):Prop :=
 ∃ A c rs,e = .returned (.tuple #[.slice A rs.length c,.int .i64 (if (rdDr l).isSome then 0 else 20)]) ∧ Fr noB w w' ∧ OwnC codT w w' A c rs ∧ ItsOwn w w' rs ((rdDr l).getD [])
def DrR (W:World) (p n mx:Nat) (Q:Nat → Prop) (tot:List It × RS) (gk:Nat) (v iv:Value) (wr:World):Prop :=
 ∃ (k:Nat) (rs:List ItW) (xs:List It) (s:RS) (A:Option Addr) (c:Nat),v = .slice A rs.length c ∧ iv = .int .i64 (k:Int) ∧ gk = n - k ∧ k ≤ n ∧ rs.length = k ∧ s.1.length ≤ mx ∧ DS W wr p Q s A c rs xs ∧ tot = (xs ++ (rdMany rdIt (n - k) s).1,(rdMany rdIt (n - k) s).2)
theorem rdIt_len (s:RS):(rdIt s).2.1.length ≤ s.1.length:=by
 unfold rdIt
 dsimp only
 exact Nat.le_trans (rdMany_len rdHd_len _ _).2 (Nat.le_trans (rdNum_bd _ _).2 (Nat.le_trans (rdId_len _) (Nat.le_trans (rdText_len _ _) (Nat.le_trans (rdSt_len _) (rdSt_len _)))))
theorem getT_z (w:World) (p:Nat) (s:RS) (Q:Nat → Prop) (h:Rdr w p s Q) (hQw:∀ b,Q b → b < w.heap.size) (hQp:¬ Q p) (hlen:s.1.length ≤ 140737488355328) (x:It) (s':RS) (hh:rdIt s = (x,s')) :
  Calls Tryz.prog 58 #[.pointer (some ⟨p,0,none⟩)] w fun e w'=>∃ r,e = .returned (.agg (codT.A r)) ∧ ItIn w' r x ∧ w'.ownsRow w.heap.size 49 34 (.slice r.A r.n r.c) r.n (codH.row x.Heads) ∧ Rdr w' p s' Q ∧ Fr (oneB p) w w':=by
 refine (getT_any w p s Q h hQw hQp hlen).mono ?_
 rintro e w' ⟨r,rfl,h1,h2,h3,h4⟩
 rw [hh] at h1 h2 h3
 exact ⟨r,rfl,h1,h2,h3,h4⟩
set_option maxRecDepth 100000 in
set_option maxHeartbeats 1000000 in
theorem dir_any (w:World) (A:Option Addr) (c n:Nat) (l:List UInt8) (hn:l.length = n) (hs:Sl w A (bv l)) (hcap:l.length ≤ c) (hlb:l.length ≤ 140737488355328):Calls Tryz.prog 40 #[.slice A n c] w (DrTo w l):=by
 obtain ⟨s,e0⟩:∃ s,openR l 2 = s:=⟨_,rfl⟩
 have b0:=openR_len l 2
 rw [e0] at b0
 obtain ⟨m,s1,e1⟩:=rd_eq (rdNum 1000) s
 have b1:=rdNum_bd 1000 s
 rw [e1] at b1
 simp only at b0 b1
 have m0:s.1.length ≤ 140737488355328:=by omega
 have m1:s1.1.length ≤ 140737488355328:=by omega
 have n1000:m ≤ 1000:=b1.1
 obtain ⟨tot,htot⟩:∃ tot,tot = rdMany rdIt m s1:=⟨_,rfl⟩
 have hR:rdDr l = if tot.2 = ([],false) ∧ rightDr tot.1 = true then some tot.1 else none:=by
  unfold rdDr
  rw [e0]
  dsimp only
  rw [e1]
  dsimp only
  rw [← htot]
 have HR:=Lib.hid hR
 have E0:=Lib.hid e0
 have E1:=Lib.hid e1
 have HT:=Lib.hid htot
 clear hR e0 e1 b0 b1 htot
 go_enter Tryz.func40,Tryz.ntmps40
 go_upto_region 2 with (go_at_call 56;refine (open_z w A c n l hn hs hcap hlb 2 2 rfl s E0.out).mono ?_;rintro e w1 ⟨p,Q,rfl,hr1,hQp,hQw,hwp,hwQ,hf1⟩)
 have lp:=hr1.lt
 have hd:DS w1 w1 p Q s none 0 [] []:=⟨hr1,Fr.refl _ _,World.ownsRow_nil _ _ _ _,⟨rfl,fun i h=>absurd h (by simp)⟩⟩
 clear hr1
 go_wp2_with (go_at_call 57;refine (num_z _ p s Q 1000 1000 rfl (by decide) hd.rd m0 m s1 E1.out).mono ?_;rintro e w2 ⟨rfl,hr2,hf2⟩;replace hd:=hd.call hr2 hf2;clear hr2 hf2)
 go_loopg [5,10] m (fun gk v iv wr=>DrR w1 p m 140737488355328 Q tot gk v iv wr)
 case atStart=>exact ⟨0,[],[],s1,none,0,rfl,rfl,by omega,by omega,rfl,m1,hd,by rw [HT.out];simp⟩
 case round =>
  obtain ⟨k,rs,xs,sk,A5,c5,rfl,rfl,rfl,hk,hl,hmx,hd,htot⟩:=hrel
  by_cases hlt:k < m
  ·have i1:(k:Int) < (m:Int):=by omega
   have bx:=rdIt_len sk
   obtain ⟨x,sn,ex⟩:=rd_eq rdIt sk
   rw [ex] at bx
   have EX:=Lib.hid ex
   have hmn:sn.1.length ≤ 140737488355328:=Nat.le_trans bx hmx
   clear ex
   have HT2:=Lib.hid htot
   have HL:=Lib.hid hl
   have HLT:=Lib.hid hlt
   clear bx htot hl hlt
   go_upto_region 6 with (first
    | (go_at_call 58;refine (getT_z _ p sk Q hd.rd (fun b h=>Nat.lt_of_lt_of_le (hQw b h) hd.fr.size) hQp hmx x sn EX.out).mono ?_;rintro e w4 ⟨r,rfl,hin,hro,hr4,hf4⟩;replace hro:=own_base hro hd.fr.size;replace hd:=hd.call hr4 hf4;have fn:Fr noB w4 (w4.alloc (codT.ro [r])):=(Fr.refl noB w4).alloc _;have sl:=Cod.sl_new (C:=codT) w4 [r];replace hd:=hd.new fn;replace hin:=hin.fr fn;replace hro:=own_new0 hro fn;clear fn hf4 hr4)
    | (at_builtin;refine wpList_appC' etT w1 _ rfl _ _ rfl A5 rs.length c5 rs rfl rfl hd.own (some ⟨w4.heap.size,0,none⟩) 1 1 [r] rfl sl rfl (by have:=HL.out;have:=HLT.out;simp;omega) hd.fr.size ?_;intro A6 c6 w6 hc6 hm6 ho6 hg6 hA6;replace hd:=hd.grow hQw lp hg6 ho6 hin hro;obtain ⟨rs',hrs'⟩:∃ rs',rs' = rs ++ [r]:=⟨_,rfl⟩;rw [← hrs'] at hd ⊢;have HRS:=Lib.hid hrs';clear hrs'))
   have hrl:rs'.length = k + 1:=by rw [HRS.out];simp [HL.out]
   have hrb:rs'.length ≤ 140737488355328:=by have:=HLT.out;omega
   have HRL:=Lib.hid hrl
   clear hrl
   have hlt:=HLT.out
   by_cases hgb:sn.2 = true
   ·have HTF:=Lib.hid (show tot = (xs ++ [x],sn) by rw [HT2.out,show m - k = m - (k + 1) + 1 by omega,rdMany_stop _ _ _ _ _ _ EX.out hgb])
    have HGB:=Lib.hid hgb
    clear hgb
    have hit:=hd.its.its
    have hrow:=hd.own
    have hfin:Fr noB w w6:=hf1.step hd.fr (fun b hb=>.inl (by have:b = p:=hb;omega))
    have HRD:=Lib.hid (fun w'' (f:Fr noB w6 w'')=>rightDir_any w'' A6 c6 rs'.length rs' (xs ++ [x]) rfl ((Sl.own hrow).fr0 f) hrb (hit.fr f))
    by_cases hdn:sn = ([],false)
    ·have D:=Lib.hid (show decide (sn = ([],false)) = true by simp [hdn])
     have D':=Lib.hid hdn
     clear hdn
     by_cases hrt:rightDr (xs ++ [x]) = true
     ·have HL:=Lib.hid (show rdDr l = some (xs ++ [x]) by rw [HR.out,HTF.out];exact if_pos ⟨D'.out,hrt⟩)
      go_wp2_with (first
       | (go_at_call 59;refine (good_any _ p _ Q hd.rd).mono ?_;rintro e wz ⟨rfl,rfl⟩;rw [HGB.out])
       | (go_at_call 60;refine (done_any _ p _ Q hd.rd).mono ?_;rintro e wz ⟨rfl,rfl⟩;rw [D.out])
       | (go_at_call 49;refine (HRD.out _ (Fr.refl _ _)).mono ?_;rintro e wz ⟨rfl,hf⟩;rw [hrt];replace hd:=hd.new hf;replace hfin:=hfin.step0 hf))
      refine bodyPost_ret (results_tmp2 rfl _ _ _) rfl ?_
      refine ⟨A6,c6,rs',by rw [HL.out];rfl,hfin,own_base hd.own hf1.size,?_⟩
      rw [HL.out]
      exact ⟨hd.its.len,fun i h1 h2=>⟨(hd.its.at_ i h1 h2).1,own_base (hd.its.at_ i h1 h2).2 hf1.size⟩⟩
     ·have hrt':rightDr (xs ++ [x]) = false:=by simpa using hrt
      have HL:=Lib.hid (show rdDr l = none by rw [HR.out,HTF.out];exact if_neg (fun h=>hrt h.2))
      clear hrt
      go_wp2_with (first
       | (go_at_call 59;refine (good_any _ p _ Q hd.rd).mono ?_;rintro e wz ⟨rfl,rfl⟩;rw [HGB.out])
       | (go_at_call 60;refine (done_any _ p _ Q hd.rd).mono ?_;rintro e wz ⟨rfl,rfl⟩;rw [D.out])
       | (go_at_call 49;refine (HRD.out _ (Fr.refl _ _)).mono ?_;rintro e wz ⟨rfl,hf⟩;rw [hrt'];replace hfin:=hfin.step0 hf))
      refine bodyPost_ret (results_tmp2 rfl _ _ _) rfl ?_
      refine ⟨none,0,[],by rw [HL.out];rfl,hfin,World.ownsRow_nil _ _ _ _,?_⟩
      rw [HL.out]
      exact ⟨rfl,fun i h=>absurd h (by simp)⟩
    ·have D:=Lib.hid (show decide (sn = ([],false)) = false by simp [hdn])
     have HL:=Lib.hid (show rdDr l = none by rw [HR.out,HTF.out];exact if_neg (fun h=>hdn h.1))
     clear hdn
     go_wp2_with (first
      | (go_at_call 59;refine (good_any _ p _ Q hd.rd).mono ?_;rintro e wz ⟨rfl,rfl⟩;rw [HGB.out])
      | (go_at_call 60;refine (done_any _ p _ Q hd.rd).mono ?_;rintro e wz ⟨rfl,rfl⟩;rw [D.out]))
     refine bodyPost_ret (results_tmp2 rfl _ _ _) rfl ?_
     refine ⟨none,0,[],by rw [HL.out];rfl,hfin,World.ownsRow_nil _ _ _ _,?_⟩
     rw [HL.out]
     exact ⟨rfl,fun i h=>absurd h (by simp)⟩
   ·have hgb':sn.2 = false:=by simpa using hgb
    go_wp2_with (go_at_call 59;refine (good_any _ p _ Q hd.rd).mono ?_;rintro e wz ⟨rfl,rfl⟩;rw [hgb'])
    go_roundg (m - (k + 1))
    case measure=>omega
    case rel =>
     exact ⟨k + 1,rs',xs ++ [x],sn,A6,c6,rfl,by simp,rfl,by omega,HRL.out,hmn,hd,by
      rw [HT2.out,show m - k = m - (k + 1) + 1 by omega,rdMany_step _ _ _ _ _ _ EX.out hgb']⟩
  ·have hkn:k = m:=by omega
   subst hkn
   have i1:¬ (k:Int) < (k:Int):=by omega
   rw [Nat.sub_self] at htot
   simp only [rdMany,List.append_nil] at htot
   have HTF:=Lib.hid htot
   have hrb:rs.length ≤ 140737488355328:=by omega
   clear htot hl
   have hit:=hd.its.its
   have hrow:=hd.own
   have hfin:Fr noB w wr:=hf1.step hd.fr (fun b hb=>.inl (by have:b = p:=hb;omega))
   have HRD:=Lib.hid (fun w'' (f:Fr noB wr w'')=>rightDir_any w'' A5 c5 rs.length rs xs rfl ((Sl.own hrow).fr0 f) hrb (hit.fr f))
   by_cases hdn:sk = ([],false)
   ·have D:=Lib.hid (show decide (sk = ([],false)) = true by simp [hdn])
    have D':=Lib.hid hdn
    clear hdn
    by_cases hrt:rightDr xs = true
    ·have HL:=Lib.hid (show rdDr l = some xs by rw [HR.out,HTF.out];exact if_pos ⟨D'.out,hrt⟩)
     go_wp2_with (first
      | fail
      | (go_at_call 60;refine (done_any _ p _ Q hd.rd).mono ?_;rintro e wz ⟨rfl,rfl⟩;rw [D.out])
      | (go_at_call 49;refine (HRD.out _ (Fr.refl _ _)).mono ?_;rintro e wz ⟨rfl,hf⟩;rw [hrt];replace hd:=hd.new hf;replace hfin:=hfin.step0 hf))
     refine bodyPost_ret (results_tmp2 rfl _ _ _) rfl ?_
     refine ⟨A5,c5,rs,by rw [HL.out];rfl,hfin,own_base hd.own hf1.size,?_⟩
     rw [HL.out]
     exact ⟨hd.its.len,fun i h1 h2=>⟨(hd.its.at_ i h1 h2).1,own_base (hd.its.at_ i h1 h2).2 hf1.size⟩⟩
    ·have hrt':rightDr xs = false:=by simpa using hrt
     have HL:=Lib.hid (show rdDr l = none by rw [HR.out,HTF.out];exact if_neg (fun h=>hrt h.2))
     clear hrt
     go_wp2_with (first
      | fail
      | (go_at_call 60;refine (done_any _ p _ Q hd.rd).mono ?_;rintro e wz ⟨rfl,rfl⟩;rw [D.out])
      | (go_at_call 49;refine (HRD.out _ (Fr.refl _ _)).mono ?_;rintro e wz ⟨rfl,hf⟩;rw [hrt'];replace hfin:=hfin.step0 hf))
     refine bodyPost_ret (results_tmp2 rfl _ _ _) rfl ?_
     refine ⟨none,0,[],by rw [HL.out];rfl,hfin,World.ownsRow_nil _ _ _ _,?_⟩
     rw [HL.out]
     exact ⟨rfl,fun i h=>absurd h (by simp)⟩
   ·have D:=Lib.hid (show decide (sk = ([],false)) = false by simp [hdn])
    have HL:=Lib.hid (show rdDr l = none by rw [HR.out,HTF.out];exact if_neg (fun h=>hdn h.1))
    clear hdn
    go_wp2_with (first
     | fail
     | (go_at_call 60;refine (done_any _ p _ Q hd.rd).mono ?_;rintro e wz ⟨rfl,rfl⟩;rw [D.out]))
    refine bodyPost_ret (results_tmp2 rfl _ _ _) rfl ?_
    refine ⟨none,0,[],by rw [HL.out];rfl,hfin,World.ownsRow_nil _ _ _ _,?_⟩
    rw [HL.out]
    exact ⟨rfl,fun i h=>absurd h (by simp)⟩
end Go.Proofs.YtnkdnbjmhoegkaaGreat
namespace Go.Proofs.YtnkdnbjmhoegkaaGreat
open Go.RowKit
def codI:Cod ID:=⟨34,32,fun x=>bv x.1,zID,fun x=>by rw [bv_length,x.2],by decide,fun x=>bv_one x.1,fun x y h=>Subtype.ext (bv_inj h)⟩
theorem etI:ET Tryz.prog 50 codI.t codI.n 32:=etIDs
structure OpsOwn (W w:World) (rs:List OpW) (xs:List Opn):Prop where
 len:rs.length = xs.length
 at_:∀ i (h:i < rs.length) (h':i < xs.length),OpIn w rs[i] xs[i] ∧ w.ownsRow W.heap.size 24 2 (.slice (rs[i]).A (rs[i]).n (rs[i]).c) (rs[i]).n (codS.row (xs[i]).Over)
theorem OpIn.of {w w':World} {r:OpW} {x:Opn} (h:OpIn w r x) {base:Nat} (ho:w'.ownsRow base 24 2 (.slice r.A r.n r.c) r.n (codS.row x.Over)):OpIn w' r x:=⟨h.eq,h.len,Sl.own ho,h.bd,h.nm⟩
theorem OpsOwn.map {W w w':World} {rs:List OpW} {xs:List Opn} (h:OpsOwn W w rs xs) (k:∀ (v:Value) (n:Nat) (l:List Value),w.ownsRow W.heap.size 24 2 v n l → w'.ownsRow W.heap.size 24 2 v n l):OpsOwn W w' rs xs :=
 ⟨h.len,fun i h1 h2=>by
  obtain ⟨a,b⟩:=h.at_ i h1 h2
  have b':=k _ _ _ b
  exact ⟨a.of b',b'⟩⟩
section
variable {W w w':World} {A B:Option Addr} {c d:Nat} {ps:List ID} {rs:List OpW} {os:List Opn}
end
end Go.Proofs.YtnkdnbjmhoegkaaGreat
namespace Go.Proofs.YtnkdnbjmhoegkaaGreat
open Go.RowKit
end Go.Proofs.YtnkdnbjmhoegkaaGreat
namespace Go.Proofs.YtnkdnbjmhoegkaaGreat
open Go.ChangeShapes Go.WideShapes Go.ChangeAt Go.RowKit Go.Deep
theorem own:ownKnob Tryz.prog.godebug = none:=by kernel_rfl
section
variable {H:Type} {enc:TypeId × Value → H} {W:World}
/-! the types of package api -/
/-! bytes -/
end
end Go.Proofs.YtnkdnbjmhoegkaaGreat
