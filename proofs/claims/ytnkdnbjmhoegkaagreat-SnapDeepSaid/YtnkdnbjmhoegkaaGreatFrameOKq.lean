/- Contracts: bytes.Clone, obj.Blob, obj.Label. Contract: obj.Dir. Contract: obj.Change. Contract: obj.Kind. The frame of a law's proof over package obj's types: arguments of types api.Stamp, api.Head, api.Op, api.Item, api.Change, api.Label and slices of them, opened. -/
import Derived.Test.YtnkdnbjmhoegkaaGreatGetTKq
import Derived.Test.YtnkdnbjmhoegkaaGreatShelfKq
import Derived.Test.YtnkdnbjmhoegkaaGreatSnpPKq
import Derived.Test.YtnkdnbjmhoegkaaGreatRows
import Derived.WalkKit
import Derived.ProofKit
import Derived.OpenShut
import Derived.ShutString
import Derived.ChangeOld
import Derived.Below
import Derived.SizedLaws
import Derived.Deep.Slices
set_option linter.unusedVariables false
set_option linter.unusedSimpArgs false
namespace Go.Proofs.YtnkdnbjmhoegkaaGreat
open Go.RowKit
theorem openR_len (l:List UInt8) (k:UInt8):(openR l k).1.length ≤ l.length:=by
 unfold openR
 split
 ·simp
 ·split <;> simp
theorem open_z (w:World) (A:Option Addr) (c n:Nat) (l:List UInt8) (hn:l.length = n) (hs:Sl w A (bv l)) (hc:l.length ≤ c) (hb:l.length ≤ 140737488355328) (k:UInt8) (z:Int) (hk:(k.toNat:Int) = z) (s:RS) (hh:openR l k = s) :
  Calls Tryz.prog 56 #[.slice A n c,.int .u8 z] w (OpenTo w s):=by
 subst hk;subst hh;exact open_any w A c n l hn hs hc hb k
end Go.Proofs.YtnkdnbjmhoegkaaGreat
namespace Go.Proofs.YtnkdnbjmhoegkaaGreat
open Go.RowKit
theorem own_two {w w':World} {b1 b2:Nat} {e1 e2:TypeId} {s1 s2 n1 n2 c1:Nat} {A:Option Addr} {v:Value} {xs ys:List Value} (h1:w.ownsRow b1 e1 s1 (.slice A n1 c1) n1 xs) (h2:w.ownsRow b2 e2 s2 v n2 ys) (hne:e1 ≠ e2) (f:Fr (fun b=>A.map (·.block) = some b) w w'):w'.ownsRow b2 e2 s2 v n2 ys:=by
 refine own_fr h2 f (fun g hg hM=>?_)
 rcases h1.2 with ⟨hv,_⟩ | ⟨g1,cap,cur,hv,hb,hgg,rest⟩
 ·injection hv with hv;subst hv;cases hM
 ·injection hv with hv;subst hv
  simp only [Option.map_some,Option.some.injEq] at hM
  subst hM
  exact Blk.ne_own (g:=g1) (t:=e1) (cs:=cur.toList) (by simpa [Blk] using hgg) h2 (fun e=>hne e.symm) g1 hg rfl
structure ItsOwn (W w:World) (rs:List ItW) (xs:List It):Prop where
 len:rs.length = xs.length
 at_:∀ i (h:i < rs.length) (h':i < xs.length),ItIn w rs[i] xs[i] ∧ w.ownsRow W.heap.size 49 34 (.slice (rs[i]).A (rs[i]).n (rs[i]).c) (rs[i]).n (codH.row (xs[i]).Heads)
theorem ItsOwn.its {W w:World} {rs:List ItW} {xs:List It} (h:ItsOwn W w rs xs):ItsIn w rs xs:=⟨h.len,fun i h1 h2=>(h.at_ i h1 h2).1⟩
theorem ItIn.of {w w':World} {r:ItW} {x:It} (h:ItIn w r x) {base:Nat} (ho:w'.ownsRow base 49 34 (.slice r.A r.n r.c) r.n (codH.row x.Heads)):ItIn w' r x:=⟨h.eq,h.len,Sl.own ho,h.bd,h.nm⟩
theorem ItsOwn.map {W w w':World} {rs:List ItW} {xs:List It} (h:ItsOwn W w rs xs) (k:∀ (v:Value) (n:Nat) (l:List Value),w.ownsRow W.heap.size 49 34 v n l → w'.ownsRow W.heap.size 49 34 v n l):ItsOwn W w' rs xs :=
 ⟨h.len,fun i h1 h2=>by
  obtain ⟨a,b⟩:=h.at_ i h1 h2
  have b':=k _ _ _ b
  exact ⟨a.of b',b'⟩⟩
theorem ItsOwn.snoc {W w:World} {rs:List ItW} {xs:List It} (h:ItsOwn W w rs xs) {r:ItW} {x:It} (hi:ItIn w r x) (ho:w.ownsRow W.heap.size 49 34 (.slice r.A r.n r.c) r.n (codH.row x.Heads)):ItsOwn W w (rs ++ [r]) (xs ++ [x]) :=
 ⟨by simp [h.len],fun i h1 h2=>by
  rcases Nat.lt_or_ge i rs.length with h3 | h3
  ·have h4:i < xs.length:=by rw [← h.len];exact h3
   rw [List.getElem_append_left h3,List.getElem_append_left h4]
   exact h.at_ i h3 h4
  ·have h5:i = rs.length:=by simp at h1;omega
   have h6:i = xs.length:=by rw [← h.len];exact h5
   have e1:(rs ++ [r])[i] = r:=by subst h5;simp
   have e2:(xs ++ [x])[i] = x:=by subst h6;simp
   rw [e1,e2]
   exact ⟨hi,ho⟩⟩
structure DS (W w:World) (p:Nat) (Q:Nat → Prop) (s:RS) (A:Option Addr) (c:Nat) (rs:List ItW) (xs:List It):Prop where
 rd:Rdr w p s Q
 fr:Fr (oneB p) W w
 own:OwnC codT W w A c rs
 its:ItsOwn W w rs xs
section
variable {W w w':World} {p:Nat} {Q:Nat → Prop} {s s':RS} {A:Option Addr} {c:Nat} {rs:List ItW} {xs:List It}
theorem DS.call (h:DS W w p Q s A c rs xs) (hr:Rdr w' p s' Q) (f:Fr (oneB p) w w'):DS W w' p Q s' A c rs xs:=by
 obtain ⟨Ar,cr,hb,_⟩:=id h.rd
 exact ⟨hr,h.fr.trans f (fun b _ h=>h),own_box hb h.own (by decide) f,h.its.map fun v n l ho=>own_box hb ho (by decide) f⟩
theorem DS.new (h:DS W w p Q s A c rs xs) (f:Fr noB w w'):DS W w' p Q s A c rs xs :=
 ⟨h.rd.fr f (by simp [noB]) (by simp [noB]),h.fr.step0 f,own_new0 h.own f,h.its.map fun v n l ho=>own_new0 ho f⟩
theorem DS.grow (h:DS W w p Q s A c rs xs) (hQ:∀ b,Q b → b < W.heap.size) (hp:p < W.heap.size) (hg:w.grownBy w' (A.map (·.block))) {A5:Option Addr} {c5:Nat} {r:ItW} {x:It} (ho5:OwnC codT W w' A5 c5 (rs ++ [r])) (hi:ItIn w r x) (hro:w.ownsRow W.heap.size 49 34 (.slice r.A r.n r.c) r.n (codH.row x.Heads)) :
  DS W w' p Q s A5 c5 (rs ++ [r]) (xs ++ [x]):=by
 have f:Fr (fun b=>A.map (·.block) = some b) w w':=Fr.ofGrown hg (fun g hg=>hg)
 have hro':=own_two h.own hro (by decide) f
 refine ⟨h.rd.fr f (fun e=>?_) (fun b hb e=>?_),h.fr.step f (fun b hb=>.inl (own_lt h.own b hb).1),ho5,(h.its.map fun v n l ho=>own_two h.own ho (by decide) f).snoc (hi.of hro') hro'⟩
 ·have:=(own_lt h.own p e).1;omega
 ·have:=(own_lt h.own b e).1;have:=hQ b hb;omega
end
def DrTo (w:World) (l:List UInt8) (e:Ending) (w':World):Prop :=
 ∃ A c rs,e = .returned (.tuple #[.slice A rs.length c,.int .i64 (if (rdDr l).isSome then 0 else 20)]) ∧ Fr noB w w' ∧ OwnC codT w w' A c rs ∧ ItsOwn w w' rs ((rdDr l).getD [])
def DrR (W:World) (p n mx:Nat) (Q:Nat → Prop) (tot:List It × RS) (gk:Nat) (v iv:Value) (wr:World):Prop :=
 ∃ (k:Nat) (rs:List ItW) (xs:List It) (s:RS) (A:Option Addr) (c:Nat),v = .slice A rs.length c ∧ iv = .int .i64 (k:Int) ∧ gk = n - k ∧ k ≤ n ∧ rs.length = k ∧ s.1.length ≤ mx ∧ DS W wr p Q s A c rs xs ∧ tot = (xs ++ (rdMany rdIt (n - k) s).1,(rdMany rdIt (n - k) s).2)
theorem rdIt_len (s:RS):(rdIt s).2.1.length ≤ s.1.length:=by
 unfold rdIt
 dsimp only
 exact Nat.le_trans (rdMany_len rdHd_len _ _).2 (Nat.le_trans (rdNum_bd _ _).2 (Nat.le_trans (rdId_len _) (Nat.le_trans (rdText_len _ _) (Nat.le_trans (rdSt_len _) (rdSt_len _)))))
theorem getT_z (w:World) (p:Nat) (s:RS) (Q:Nat → Prop) (h:Rdr w p s Q) (hQw:∀ b,Q b → b < w.heap.size) (hQp:¬ Q p) (hlen:s.1.length ≤ 140737488355328) (x:It) (s':RS) (hh:rdIt s = (x,s')) :
  Calls Tryz.prog 58 #[.pointer (some ⟨p,0,none⟩)] w fun e w'=>∃ r,e = .returned (.agg (codT.A r)) ∧ ItIn w' r x ∧ w'.ownsRow w.heap.size 49 34 (.slice r.A r.n r.c) r.n (codH.row x.Heads) ∧ Rdr w' p s' Q ∧ Fr (oneB p) w w':=by
 refine (getT_any w p s Q h hQw hQp hlen).mono ?_
 rintro e w' ⟨r,rfl,h1,h2,h3,h4⟩
 rw [hh] at h1 h2 h3
 exact ⟨r,rfl,h1,h2,h3,h4⟩
set_option maxRecDepth 100000 in
set_option maxHeartbeats 1000000 in
theorem dir_any (w:World) (A:Option Addr) (c n:Nat) (l:List UInt8) (hn:l.length = n) (hs:Sl w A (bv l)) (hcap:l.length ≤ c) (hlb:l.length ≤ 140737488355328):Calls Tryz.prog 40 #[.slice A n c] w (DrTo w l):=by
 obtain ⟨s,e0⟩:∃ s,openR l 2 = s:=⟨_,rfl⟩
 have b0:=openR_len l 2
 rw [e0] at b0
 obtain ⟨m,s1,e1⟩:=rd_eq (rdNum 1000) s
 have b1:=rdNum_bd 1000 s
 rw [e1] at b1
 simp only at b0 b1
 have m0:s.1.length ≤ 140737488355328:=by omega
 have m1:s1.1.length ≤ 140737488355328:=by omega
 have n1000:m ≤ 1000:=b1.1
 obtain ⟨tot,htot⟩:∃ tot,tot = rdMany rdIt m s1:=⟨_,rfl⟩
 have hR:rdDr l = if tot.2 = ([],false) ∧ rightDr tot.1 = true then some tot.1 else none:=by
  unfold rdDr
  rw [e0]
  dsimp only
  rw [e1]
  dsimp only
  rw [← htot]
 have HR:=Lib.hid hR
 have E0:=Lib.hid e0
 have E1:=Lib.hid e1
 have HT:=Lib.hid htot
 clear hR e0 e1 b0 b1 htot
 go_enter Tryz.func40,Tryz.ntmps40
 go_upto_region 2 with (go_at_call 56;refine (open_z w A c n l hn hs hcap hlb 2 2 rfl s E0.out).mono ?_;rintro e w1 ⟨p,Q,rfl,hr1,hQp,hQw,hwp,hwQ,hf1⟩)
 have lp:=hr1.lt
 have hd:DS w1 w1 p Q s none 0 [] []:=⟨hr1,Fr.refl _ _,World.ownsRow_nil _ _ _ _,⟨rfl,fun i h=>absurd h (by simp)⟩⟩
 clear hr1
 go_wp2_with (go_at_call 57;refine (num_z _ p s Q 1000 1000 rfl (by decide) hd.rd m0 m s1 E1.out).mono ?_;rintro e w2 ⟨rfl,hr2,hf2⟩;replace hd:=hd.call hr2 hf2;clear hr2 hf2)
 go_loopg [5,10] m (fun gk v iv wr=>DrR w1 p m 140737488355328 Q tot gk v iv wr)
 case atStart=>exact ⟨0,[],[],s1,none,0,rfl,rfl,by omega,by omega,rfl,m1,hd,by rw [HT.out];simp⟩
 case round =>
  obtain ⟨k,rs,xs,sk,A5,c5,rfl,rfl,rfl,hk,hl,hmx,hd,htot⟩:=hrel
  by_cases hlt:k < m
  ·have i1:(k:Int) < (m:Int):=by omega
   have bx:=rdIt_len sk
   obtain ⟨x,sn,ex⟩:=rd_eq rdIt sk
   rw [ex] at bx
   have EX:=Lib.hid ex
   have hmn:sn.1.length ≤ 140737488355328:=Nat.le_trans bx hmx
   clear ex
   have HT2:=Lib.hid htot
   have HL:=Lib.hid hl
   have HLT:=Lib.hid hlt
   clear bx htot hl hlt
   go_upto_region 6 with (first
    | (go_at_call 58;refine (getT_z _ p sk Q hd.rd (fun b h=>Nat.lt_of_lt_of_le (hQw b h) hd.fr.size) hQp hmx x sn EX.out).mono ?_;rintro e w4 ⟨r,rfl,hin,hro,hr4,hf4⟩;replace hro:=own_base hro hd.fr.size;replace hd:=hd.call hr4 hf4;have fn:Fr noB w4 (w4.alloc (codT.ro [r])):=(Fr.refl noB w4).alloc _;have sl:=Cod.sl_new (C:=codT) w4 [r];replace hd:=hd.new fn;replace hin:=hin.fr fn;replace hro:=own_new0 hro fn;clear fn hf4 hr4)
    | (at_builtin;refine wpList_appC' etT w1 _ rfl _ _ rfl A5 rs.length c5 rs rfl rfl hd.own (some ⟨w4.heap.size,0,none⟩) 1 1 [r] rfl sl rfl (by have:=HL.out;have:=HLT.out;simp;omega) hd.fr.size ?_;intro A6 c6 w6 hc6 hm6 ho6 hg6 hA6;replace hd:=hd.grow hQw lp hg6 ho6 hin hro;obtain ⟨rs',hrs'⟩:∃ rs',rs' = rs ++ [r]:=⟨_,rfl⟩;rw [← hrs'] at hd ⊢;have HRS:=Lib.hid hrs';clear hrs'))
   have hrl:rs'.length = k + 1:=by rw [HRS.out];simp [HL.out]
   have hrb:rs'.length ≤ 140737488355328:=by have:=HLT.out;omega
   have HRL:=Lib.hid hrl
   clear hrl
   have hlt:=HLT.out
   by_cases hgb:sn.2 = true
   ·have HTF:=Lib.hid (show tot = (xs ++ [x],sn) by rw [HT2.out,show m - k = m - (k + 1) + 1 by omega,rdMany_stop _ _ _ _ _ _ EX.out hgb])
    have HGB:=Lib.hid hgb
    clear hgb
    have hit:=hd.its.its
    have hrow:=hd.own
    have hfin:Fr noB w w6:=hf1.step hd.fr (fun b hb=>.inl (by have:b = p:=hb;omega))
    have HRD:=Lib.hid (fun w'' (f:Fr noB w6 w'')=>rightDir_any w'' A6 c6 rs'.length rs' (xs ++ [x]) rfl ((Sl.own hrow).fr0 f) hrb (hit.fr f))
    by_cases hdn:sn = ([],false)
    ·have D:=Lib.hid (show decide (sn = ([],false)) = true by simp [hdn])
     have D':=Lib.hid hdn
     clear hdn
     by_cases hrt:rightDr (xs ++ [x]) = true
     ·have HL:=Lib.hid (show rdDr l = some (xs ++ [x]) by rw [HR.out,HTF.out];exact if_pos ⟨D'.out,hrt⟩)
      go_wp2_with (first
       | (go_at_call 59;refine (good_any _ p _ Q hd.rd).mono ?_;rintro e wz ⟨rfl,rfl⟩;rw [HGB.out])
       | (go_at_call 60;refine (done_any _ p _ Q hd.rd).mono ?_;rintro e wz ⟨rfl,rfl⟩;rw [D.out])
       | (go_at_call 49;refine (HRD.out _ (Fr.refl _ _)).mono ?_;rintro e wz ⟨rfl,hf⟩;rw [hrt];replace hd:=hd.new hf;replace hfin:=hfin.step0 hf))
      refine bodyPost_ret (results_tmp2 rfl _ _ _) rfl ?_
      refine ⟨A6,c6,rs',by rw [HL.out];rfl,hfin,own_base hd.own hf1.size,?_⟩
      rw [HL.out]
      exact ⟨hd.its.len,fun i h1 h2=>⟨(hd.its.at_ i h1 h2).1,own_base (hd.its.at_ i h1 h2).2 hf1.size⟩⟩
     ·have hrt':rightDr (xs ++ [x]) = false:=by simpa using hrt
      have HL:=Lib.hid (show rdDr l = none by rw [HR.out,HTF.out];exact if_neg (fun h=>hrt h.2))
      clear hrt
      go_wp2_with (first
       | (go_at_call 59;refine (good_any _ p _ Q hd.rd).mono ?_;rintro e wz ⟨rfl,rfl⟩;rw [HGB.out])
       | (go_at_call 60;refine (done_any _ p _ Q hd.rd).mono ?_;rintro e wz ⟨rfl,rfl⟩;rw [D.out])
       | (go_at_call 49;refine (HRD.out _ (Fr.refl _ _)).mono ?_;rintro e wz ⟨rfl,hf⟩;rw [hrt'];replace hfin:=hfin.step0 hf))
      refine bodyPost_ret (results_tmp2 rfl _ _ _) rfl ?_
      refine ⟨none,0,[],by rw [HL.out];rfl,hfin,World.ownsRow_nil _ _ _ _,?_⟩
      rw [HL.out]
      exact ⟨rfl,fun i h=>absurd h (by simp)⟩
    ·have D:=Lib.hid (show decide (sn = ([],false)) = false by simp [hdn])
     have HL:=Lib.hid (show rdDr l = none by rw [HR.out,HTF.out];exact if_neg (fun h=>hdn h.1))
     clear hdn
     go_wp2_with (first
      | (go_at_call 59;refine (good_any _ p _ Q hd.rd).mono ?_;rintro e wz ⟨rfl,rfl⟩;rw [HGB.out])
      | (go_at_call 60;refine (done_any _ p _ Q hd.rd).mono ?_;rintro e wz ⟨rfl,rfl⟩;rw [D.out]))
     refine bodyPost_ret (results_tmp2 rfl _ _ _) rfl ?_
     refine ⟨none,0,[],by rw [HL.out];rfl,hfin,World.ownsRow_nil _ _ _ _,?_⟩
     rw [HL.out]
     exact ⟨rfl,fun i h=>absurd h (by simp)⟩
   ·have hgb':sn.2 = false:=by simpa using hgb
    go_wp2_with (go_at_call 59;refine (good_any _ p _ Q hd.rd).mono ?_;rintro e wz ⟨rfl,rfl⟩;rw [hgb'])
    go_roundg (m - (k + 1))
    case measure=>omega
    case rel =>
     exact ⟨k + 1,rs',xs ++ [x],sn,A6,c6,rfl,by simp,rfl,by omega,HRL.out,hmn,hd,by
      rw [HT2.out,show m - k = m - (k + 1) + 1 by omega,rdMany_step _ _ _ _ _ _ EX.out hgb']⟩
  ·have hkn:k = m:=by omega
   subst hkn
   have i1:¬ (k:Int) < (k:Int):=by omega
   rw [Nat.sub_self] at htot
   simp only [rdMany,List.append_nil] at htot
   have HTF:=Lib.hid htot
   have hrb:rs.length ≤ 140737488355328:=by omega
   clear htot hl
   have hit:=hd.its.its
   have hrow:=hd.own
   have hfin:Fr noB w wr:=hf1.step hd.fr (fun b hb=>.inl (by have:b = p:=hb;omega))
   have HRD:=Lib.hid (fun w'' (f:Fr noB wr w'')=>rightDir_any w'' A5 c5 rs.length rs xs rfl ((Sl.own hrow).fr0 f) hrb (hit.fr f))
   by_cases hdn:sk = ([],false)
   ·have D:=Lib.hid (show decide (sk = ([],false)) = true by simp [hdn])
    have D':=Lib.hid hdn
    clear hdn
    by_cases hrt:rightDr xs = true
    ·have HL:=Lib.hid (show rdDr l = some xs by rw [HR.out,HTF.out];exact if_pos ⟨D'.out,hrt⟩)
     go_wp2_with (first
      | fail
      | (go_at_call 60;refine (done_any _ p _ Q hd.rd).mono ?_;rintro e wz ⟨rfl,rfl⟩;rw [D.out])
      | (go_at_call 49;refine (HRD.out _ (Fr.refl _ _)).mono ?_;rintro e wz ⟨rfl,hf⟩;rw [hrt];replace hd:=hd.new hf;replace hfin:=hfin.step0 hf))
     refine bodyPost_ret (results_tmp2 rfl _ _ _) rfl ?_
     refine ⟨A5,c5,rs,by rw [HL.out];rfl,hfin,own_base hd.own hf1.size,?_⟩
     rw [HL.out]
     exact ⟨hd.its.len,fun i h1 h2=>⟨(hd.its.at_ i h1 h2).1,own_base (hd.its.at_ i h1 h2).2 hf1.size⟩⟩
    ·have hrt':rightDr xs = false:=by simpa using hrt
     have HL:=Lib.hid (show rdDr l = none by rw [HR.out,HTF.out];exact if_neg (fun h=>hrt h.2))
     clear hrt
     go_wp2_with (first
      | fail
      | (go_at_call 60;refine (done_any _ p _ Q hd.rd).mono ?_;rintro e wz ⟨rfl,rfl⟩;rw [D.out])
      | (go_at_call 49;refine (HRD.out _ (Fr.refl _ _)).mono ?_;rintro e wz ⟨rfl,hf⟩;rw [hrt'];replace hfin:=hfin.step0 hf))
     refine bodyPost_ret (results_tmp2 rfl _ _ _) rfl ?_
     refine ⟨none,0,[],by rw [HL.out];rfl,hfin,World.ownsRow_nil _ _ _ _,?_⟩
     rw [HL.out]
     exact ⟨rfl,fun i h=>absurd h (by simp)⟩
   ·have D:=Lib.hid (show decide (sk = ([],false)) = false by simp [hdn])
    have HL:=Lib.hid (show rdDr l = none by rw [HR.out,HTF.out];exact if_neg (fun h=>hdn h.1))
    clear hdn
    go_wp2_with (first
     | fail
     | (go_at_call 60;refine (done_any _ p _ Q hd.rd).mono ?_;rintro e wz ⟨rfl,rfl⟩;rw [D.out]))
    refine bodyPost_ret (results_tmp2 rfl _ _ _) rfl ?_
    refine ⟨none,0,[],by rw [HL.out];rfl,hfin,World.ownsRow_nil _ _ _ _,?_⟩
    rw [HL.out]
    exact ⟨rfl,fun i h=>absurd h (by simp)⟩
end Go.Proofs.YtnkdnbjmhoegkaaGreat
namespace Go.Proofs.YtnkdnbjmhoegkaaGreat
open Go.RowKit
def codI:Cod ID:=⟨34,32,fun x=>bv x.1,zID,fun x=>by rw [bv_length,x.2],by decide,fun x=>bv_one x.1,fun x y h=>Subtype.ext (bv_inj h)⟩
theorem etI:ET Tryz.prog 50 codI.t codI.n 32:=etIDs
structure OpsOwn (W w:World) (rs:List OpW) (xs:List Opn):Prop where
 len:rs.length = xs.length
 at_:∀ i (h:i < rs.length) (h':i < xs.length),OpIn w rs[i] xs[i] ∧ w.ownsRow W.heap.size 24 2 (.slice (rs[i]).A (rs[i]).n (rs[i]).c) (rs[i]).n (codS.row (xs[i]).Over)
theorem OpIn.of {w w':World} {r:OpW} {x:Opn} (h:OpIn w r x) {base:Nat} (ho:w'.ownsRow base 24 2 (.slice r.A r.n r.c) r.n (codS.row x.Over)):OpIn w' r x:=⟨h.eq,h.len,Sl.own ho,h.bd,h.nm⟩
theorem OpsOwn.map {W w w':World} {rs:List OpW} {xs:List Opn} (h:OpsOwn W w rs xs) (k:∀ (v:Value) (n:Nat) (l:List Value),w.ownsRow W.heap.size 24 2 v n l → w'.ownsRow W.heap.size 24 2 v n l):OpsOwn W w' rs xs :=
 ⟨h.len,fun i h1 h2=>by
  obtain ⟨a,b⟩:=h.at_ i h1 h2
  have b':=k _ _ _ b
  exact ⟨a.of b',b'⟩⟩
section
variable {W w w':World} {A B:Option Addr} {c d:Nat} {ps:List ID} {rs:List OpW} {os:List Opn}
end
end Go.Proofs.YtnkdnbjmhoegkaaGreat
namespace Go.Proofs.YtnkdnbjmhoegkaaGreat
open Go.RowKit
end Go.Proofs.YtnkdnbjmhoegkaaGreat
namespace Go.Proofs.YtnkdnbjmhoegkaaGreat
open Go.ChangeShapes Go.WideShapes Go.ChangeAt Go.RowKit Go.Deep
theorem own:ownKnob Tryz.prog.godebug = none:=by kernel_rfl
theorem laidOut:laidOutB Tryz.prog = true:=by kernel_rfl
theorem list_of_all {α:Type} {Q:Nat → α → Prop} (n:Nat) (h:∀ i,i < n → ∃ p,Q i p):∃ ps:List α,ps.length = n ∧ ∀ i (hi:i < ps.length),Q i ps[i]:=by
 induction n with
 | zero=>exact ⟨[],rfl,fun i hi=>by simp at hi⟩
 | succ n ih =>
  obtain ⟨ps,hl,hq⟩:=ih (fun i hi=>h i (by omega))
  obtain ⟨p,hp⟩:=h n (by omega)
  refine ⟨ps ++ [p],by simp [hl],fun i hi=>?_⟩
  by_cases hi':i < ps.length
  ·rw [List.getElem_append_left hi'];exact hq i hi'
  ·have:i = ps.length:=by simp at hi;omega
   subst this
   simp only [List.getElem_append_right (Nat.le_refl _),Nat.sub_self,List.getElem_cons_zero]
   rw [hl];exact hp
theorem u8_wf {a:Int} (h:(Lit.int .u8 a).wf = true):0 ≤ a ∧ a < 256:=by
 simp [Lit.wf] at h
 have e1:IntKind.u8.min = 0:=rfl
 have e2:IntKind.u8.max = 255:=rfl
 rw [e1,e2] at h
 omega
theorem cut_one {cs p:List Value} {a k b:Nat} (h:(cs.drop a).take k = p) (hb:a + k = b):cs.drop a = p ++ cs.drop b:=by
 subst hb
 rw [← h,← List.drop_drop,List.take_append_drop]
theorem cut_end {cs:List Value} {n:Nat} (h:cs.length = n):cs.drop n = []:=List.drop_eq_nil_of_le (by omega)
section
variable {H:Type} {enc:TypeId × Value → H} {W:World}
def Td (enc:TypeId × Value → H) (W:World) (fuel:Nat) (t:TypeId) (cs:List Value) (x:DataW H × List MemPlace):Prop :=
 DataW.trod enc Tryz.prog W 0 (fun _=>true) true fuel t cs = some x ∧ ∀ n ∈ x.1.weights Tryz.prog t,n ≤ reachBytes
theorem wAll_mem {e:TypeId} {d:DataW H} {l:List (DataW H)} (hd:d ∈ l) {n:Nat} (hn:n ∈ d.weights Tryz.prog e):n ∈ DataW.weightsAll Tryz.prog e l:=by
 induction l with
 | nil=>simp at hd
 | cons y l ih =>
  simp only [DataW.weightsAll,List.mem_append]
  rcases List.mem_cons.1 hd with rfl | h
  ·exact .inl hn
  ·exact .inr (ih h)
theorem td_fld {t:TypeId} {fs:Array Field} {fuel:Nat} {cs:List Value} {x:DataW H × List MemPlace} (ht:Tryz.prog.underlying t = some (.struct fs)) (h:Td enc W fuel t cs x) :
  ∃ n,cs.length = Tryz.prog.cellsOf t ∧ ∀ (i:Nat) f,fs[i]? = some f → ∃ y,Td enc W n f.type ((cs.drop f.offset).take (Tryz.prog.cellsOf f.type)) y:=by
 obtain ⟨h,hw⟩:=h
 obtain ⟨xs,n,_,rfl,hl,hlen,hf⟩:=DataW.trod_struct ht h
 refine ⟨n,hl,fun i f hi=>?_⟩
 have hil:i < xs.length:=by rw [hlen];exact (Array.getElem?_eq_some_iff.1 hi).1
 refine ⟨xs[i],(hf i f hi).trans (List.getElem?_eq_getElem hil),fun m hm=>hw m ?_⟩
 simp only [DataW.weights,ht]
 exact DataW.weights_mem_each (j:=i) (by simp [hi]) (by rw [List.getElem?_map,List.getElem?_eq_getElem hil];rfl) m hm
theorem td_f2 {t:TypeId} {f0 f1:Field} {fuel:Nat} {cs:List Value} {x:DataW H × List MemPlace} (ht:Tryz.prog.underlying t = some (.struct #[f0,f1])) (h:Td enc W fuel t cs x) :
  ∃ n,cs.length = Tryz.prog.cellsOf t ∧ (∃ y,Td enc W n f0.type ((cs.drop f0.offset).take (Tryz.prog.cellsOf f0.type)) y) ∧ (∃ y,Td enc W n f1.type ((cs.drop f1.offset).take (Tryz.prog.cellsOf f1.type)) y):=by
 obtain ⟨n,hl,hf⟩:=td_fld ht h
 exact ⟨n,hl,hf 0 f0 rfl,hf 1 f1 rfl⟩
theorem td_f5 {t:TypeId} {f0 f1 f2 f3 f4:Field} {fuel:Nat} {cs:List Value} {x:DataW H × List MemPlace} (ht:Tryz.prog.underlying t = some (.struct #[f0,f1,f2,f3,f4])) (h:Td enc W fuel t cs x) :
  ∃ n,cs.length = Tryz.prog.cellsOf t ∧ (∃ y,Td enc W n f0.type ((cs.drop f0.offset).take (Tryz.prog.cellsOf f0.type)) y) ∧ (∃ y,Td enc W n f1.type ((cs.drop f1.offset).take (Tryz.prog.cellsOf f1.type)) y) ∧ (∃ y,Td enc W n f2.type ((cs.drop f2.offset).take (Tryz.prog.cellsOf f2.type)) y) ∧ (∃ y,Td enc W n f3.type ((cs.drop f3.offset).take (Tryz.prog.cellsOf f3.type)) y) ∧ (∃ y,Td enc W n f4.type ((cs.drop f4.offset).take (Tryz.prog.cellsOf f4.type)) y):=by
 obtain ⟨n,hl,hf⟩:=td_fld ht h
 exact ⟨n,hl,hf 0 f0 rfl,hf 1 f1 rfl,hf 2 f2 rfl,hf 3 f3 rfl,hf 4 f4 rfl⟩
theorem td_int {t:TypeId} {k:IntKind} {fuel:Nat} {cs:List Value} {x:DataW H × List MemPlace} (ht:Tryz.prog.underlying t = some (.int k)) (h:Td enc W fuel t cs x):∃ a,cs = [.int k a]:=by
 obtain ⟨a,ea,_,_⟩:=DataW.trod_int ht h.1
 exact ⟨a,ea⟩
theorem td_str {t:TypeId} {fuel:Nat} {cs:List Value} {x:DataW H × List MemPlace} (ht:Tryz.prog.underlying t = some .string) (h:Td enc W fuel t cs x):∃ l:List UInt8,cs = [.string (str l)] ∧ l.length ≤ 140737488355328:=by
 obtain ⟨h,hw⟩:=h
 obtain ⟨s,e,rfl,hs⟩:=DataW.trod_string ht h
 refine ⟨s.data.toList,e,?_⟩
 have:=hw s.data.toList.length (by simp [DataW.weights])
 simp only [reachBytes] at this
 omega
set_option maxRecDepth 100000 in
theorem td_id {fuel:Nat} {cs:List Value} {x:DataW H × List MemPlace} (h:Td enc W fuel 34 cs x):∃ y:ID,cs = bv y.1:=by
 obtain ⟨xs,k,_,_,hcl,hxl,he⟩:=DataW.trod_array Tryz.underlying34 h.1
 have c32:Tryz.prog.cellsOf 34 = 32:=by kernel_rfl
 have c1:Tryz.prog.cellsOf 5 = 1:=by kernel_rfl
 rw [c32] at hcl
 rw [c1] at he
 have hp:∀ i,i < 32 → ∃ b:UInt8,cs[i]? = some (u8v b):=by
  intro i hi
  have e:=he i hi
  rw [List.getElem?_eq_getElem (by omega)] at e
  have hd:(cs.drop (i * 1)).take 1 = [cs[i]'(by omega)]:=by
   rw [Nat.mul_one,List.drop_eq_getElem_cons (by omega)];rfl
  rw [hd] at e
  obtain ⟨a,ea,_,hw⟩:=DataW.trod_int Tryz.underlying5 e
  simp only [List.cons.injEq,and_true] at ea
  have hb:=u8_wf hw
  refine ⟨UInt8.ofNat a.toNat,?_⟩
  rw [List.getElem?_eq_getElem (by omega),ea]
  unfold u8v
  rw [UInt8.toNat_ofNat',Nat.mod_eq_of_lt (by omega)]
  congr 2
  omega
 obtain ⟨bs,hl,hq⟩:=list_of_all 32 hp
 refine ⟨⟨bs,hl⟩,?_⟩
 apply List.ext_getElem?
 intro i
 by_cases hi:i < 32
 ·rw [hq i (by omega),bv_get _ _ (by show i < bs.length;omega)];rfl
 ·rw [List.getElem?_eq_none (by omega),List.getElem?_eq_none (by rw [bv_length];show bs.length ≤ i;omega)]
set_option maxRecDepth 100000 in
theorem td_slk {α:Type} (C:Cod α) {R:α → Prop} {ts:TypeId} (hts:Tryz.prog.underlying ts = some (.slice C.t)) (hC:Tryz.prog.cellsOf C.t = C.n) {k:Nat} (hk:1 ≤ k) (hB:k ≤ Tryz.prog.bytesOf C.t)
  (hel:∀ n cs x,Td enc W n C.t cs x → ∃ a,cs = C.cs a ∧ R a) {fuel:Nat} {cs:List Value} {x:DataW H × List MemPlace} (h:Td enc W fuel ts cs x) :
  ∃ (B:Option Addr) (xs:List α) (c:Nat),cs = [.slice B xs.length c] ∧ Sl W B (C.row xs) ∧ xs.length * k ≤ 140737488355328 ∧ xs.length ≤ c ∧ ∀ i (hi:i < xs.length),R xs[i]:=by
 obtain ⟨h,hw⟩:=h
 rcases open_slice hts h with ⟨hcs,_⟩ | ⟨a,l,c,m,n,D,Pl,hcs,_,hl,hm,hmm,rfl,hall⟩
 ·exact ⟨none,[],0,hcs,Sl.nil _ _,by simp,by simp,fun i hi=>by simp at hi⟩
 ·simp only [if_true] at hmm
  subst hmm
  simp only [DataW.weights,hts] at hw
  have hwl:l * k ≤ 140737488355328:=by
   have h1:=hw _ (List.mem_cons_self ..)
   simp only [List.length_map,List.length_range,reachBytes] at h1
   have h2:=Nat.mul_le_mul_left (l + (m - l)) hB
   have h3:=Nat.mul_le_mul_right k (show l ≤ l + (m - l) by omega)
   omega
  rw [hC] at hall
  have hp:∀ i,i < l → ∃ y:α,(∀ j (v:Value),(C.cs y)[j]? = some v → W.cell? ((a.add (i * C.n)).add j) = some v) ∧ R y:=by
   intro i hi
   obtain ⟨cs',hc,ht⟩:=hall i (by omega)
   obtain ⟨_,hcl,hat⟩:=World.cells?_some hc
   obtain ⟨y,rfl,hr⟩:=hel _ _ _ ⟨ht,fun k hk=>hw k (List.mem_cons_of_mem _ (List.mem_append_left _ (wAll_mem (List.mem_map.2 ⟨i,List.mem_range.2 hi,rfl⟩) hk)))⟩
   refine ⟨y,fun j v hv=>?_,hr⟩
   have hj:j < C.n:=by have:=(List.getElem?_eq_some_iff.1 hv).1;rw [C.len] at this;exact this
   exact (hat j hj).trans hv
  obtain ⟨ps,hpl,hq⟩:=list_of_all l hp
  refine ⟨some a,ps,_,by rw [hpl];exact hcs,fun hne=>?_,by rw [hpl];exact hwl,by omega,fun i hi=>(hq i hi).2⟩
  obtain ⟨g,off,spot⟩:=a
  have hpos:0 < ps.length:=by
   rcases Nat.eq_zero_or_pos ps.length with h0 | h0
   ·have:ps = []:=List.eq_nil_of_length_eq_zero h0
    subst this;simp [Cod.row] at hne
   ·exact h0
  have hn:=C.pos
  have h00:=(hq 0 hpos).1 0 _ (List.getElem?_eq_getElem (by rw [C.len];exact hn))
  have hspot:spot = none:=by simpa [Addr.add] using World.cell?_spot h00
  subst hspot
  have hadd:∀ (o j:Nat),(⟨g,o,none⟩:Addr).add j = ⟨g,o + j,none⟩:=by intro o j;unfold Addr.add;split <;> simp_all
  refine ⟨g,off,rfl,World.block_lt_of_cell? _ _ (by rw [hadd,hadd] at h00;exact h00),fun j u hu=>?_⟩
  have hjl:j < ps.length * C.n:=by have:=(List.getElem?_eq_some_iff.1 hu).1;rw [Cod.row_len] at this;exact this
  have hi:j / C.n < ps.length:=Nat.div_lt_of_lt_mul (by rw [Nat.mul_comm];exact hjl)
  have hk:j % C.n < (C.cs ps[j / C.n]).length:=by rw [C.len];exact Nat.mod_lt _ hn
  have h1:=(hq (j / C.n) hi).1 (j % C.n) _ (List.getElem?_eq_getElem hk)
  have h2:=Cod.row_get ps (j / C.n) (j % C.n) hi _ (List.getElem?_eq_getElem hk)
  have hdm:j / C.n * C.n + j % C.n = j:=Nat.div_add_mod' j C.n
  rw [hdm] at h2
  rw [h2] at hu
  injection hu with hu
  rw [← hu]
  rw [hadd,hadd,Nat.add_assoc,hdm] at h1
  exact h1
theorem td_sl {α:Type} (C:Cod α) {R:α → Prop} {ts:TypeId} (hts:Tryz.prog.underlying ts = some (.slice C.t)) (hC:Tryz.prog.cellsOf C.t = C.n) (hB:1 ≤ Tryz.prog.bytesOf C.t)
  (hel:∀ n cs x,Td enc W n C.t cs x → ∃ a,cs = C.cs a ∧ R a) {fuel:Nat} {cs:List Value} {x:DataW H × List MemPlace} (h:Td enc W fuel ts cs x) :
  ∃ (B:Option Addr) (xs:List α) (c:Nat),cs = [.slice B xs.length c] ∧ Sl W B (C.row xs) ∧ xs.length ≤ 140737488355328 ∧ xs.length ≤ c ∧ ∀ i (hi:i < xs.length),R xs[i]:=by
 obtain ⟨B,xs,c,h1,h2,h3,h4⟩:=td_slk C hts hC (Nat.le_refl 1) hB hel h
 exact ⟨B,xs,c,h1,h2,by omega,h4⟩
/-! the types of package api -/
set_option maxRecDepth 100000 in
theorem td_st {fuel:Nat} {cs:List Value} {x:DataW H × List MemPlace} (h:Td enc W fuel 24 cs x):∃ y:St,cs = csS y:=by
 obtain ⟨n,hl,⟨_,y0⟩,⟨_,y1⟩⟩:=td_f2 Tryz.underlying24 h
 have cl:Tryz.prog.cellsOf 24 = 2:=by kernel_rfl
 have c1:Tryz.prog.cellsOf 2 = 1:=by kernel_rfl
 have c2:Tryz.prog.cellsOf 3 = 1:=by kernel_rfl
 rw [cl] at hl
 obtain ⟨a0,e0⟩:=td_int Tryz.underlying2 y0
 obtain ⟨a1,e1⟩:=td_int Tryz.underlying3 y1
 simp only [c1,c2] at e0 e1
 refine ⟨⟨a0,a1⟩,?_⟩
 have:=cut_one e0 rfl
 rw [List.drop_zero] at this
 rw [this,cut_one e1 rfl,cut_end hl];rfl
theorem wt_arg {ts:List TypeId} {ds:List (DataW H)} (h:(DataW.weightsEach Tryz.prog ts ds).all (· ≤ reachBytes) = true) {j:Nat} {t:TypeId} {d:DataW H} (ht:ts[j]? = some t) (hd:ds[j]? = some d):∀ n ∈ d.weights Tryz.prog t,n ≤ reachBytes:=fun n hn=>by
 simpa using List.all_eq_true.1 h n (DataW.weights_mem_each ht hd n hn)
set_option maxRecDepth 100000 in
theorem td_hd {fuel:Nat} {cs:List Value} {x:DataW H × List MemPlace} (h:Td enc W fuel 49 cs x):∃ y:Hd,cs = csH y:=by
 obtain ⟨n,hl,⟨_,y0⟩,⟨_,y1⟩⟩:=td_f2 Tryz.underlying49 h
 have cl:Tryz.prog.cellsOf 49 = 34:=by kernel_rfl
 rw [cl] at hl
 have c0:Tryz.prog.cellsOf 24 = 2:=by kernel_rfl
 obtain ⟨a0,e0⟩:=td_st y0
 simp only [c0] at e0
 have c1:Tryz.prog.cellsOf 34 = 32:=by kernel_rfl
 obtain ⟨a1,e1⟩:=td_id y1
 simp only [c1] at e1
 have e:=cut_one e0 rfl
 rw [List.drop_zero] at e
 rw [cut_one e1 rfl,cut_end hl] at e
 exact ⟨⟨a0,a1⟩,by rw [e];simp [csH,csS]⟩
theorem list_R {α β:Type} {R:α → β → Prop} {l:List α} (h:∀ i (hi:i < l.length),∃ b,R l[i] b):∃ m:List β,l.length = m.length ∧ ∀ i (h1:i < l.length) (h2:i < m.length),R l[i] m[i]:=by
 obtain ⟨m,hm,hq⟩:=list_of_all (Q:=fun i b=>∃ hi:i < l.length,R l[i] b) l.length (fun i hi=>by obtain ⟨b,hb⟩:=h i hi;exact ⟨b,hi,hb⟩)
 exact ⟨m,hm.symm,fun i h1 h2=>(hq i h2).2⟩
/-! bytes -/
end
end Go.Proofs.YtnkdnbjmhoegkaaGreat
