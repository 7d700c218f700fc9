/- Contracts: enc.Id, enc.Text. Contracts: the reader's take, Done, Text. -/
import Derived.Test.YtahllkifmmjbdaaNumWKp
import Derived.Test.YtahllkifmmjbdaaStWKp
import Derived.Test.YtahllkifmmjbdaaIdRowKp
import Derived.Test.YtahllkifmmjbdaaStrsKp
import Derived.Lib.AppendStr
set_option linter.unusedVariables false
set_option linter.unusedSimpArgs false
namespace Go.Proofs.Ytahllkifmmjbdaa
open Go.RowKit
abbrev OwnB (w0 w:World) (A:Option Addr) (c:Nat) (l:List UInt8):Prop:=w.ownsRow w0.heap.size 5 1 (.slice A l.length c) l.length (bv l)
theorem ownBlock_slice (A:Option Addr) (n c:Nat):(Value.slice A n c).ownBlock = A.map (·.block):=by cases A <;> rfl
theorem step_appC (w0 w:World) {ops:Array Oper} {o:Oper} {a:Act} {K:Act → World → Prop} {Q:Exit → Act → World → Prop} {E:Prop} (hgd:o.guard = none) (s x:Operand)
  (ho:o.op = .call { callee:=.builtin .append,args:=#[s,x],argTypes:=#[25,25] })
  (As:Option Addr) (ns cs:Nat) (lo:List UInt8) (hs:a.eval s = .slice As ns cs) (hns:lo.length = ns) (hown:OwnB w0 w As cs lo)
  (A:Option Addr) (m c:Nat) (news:List UInt8) (hx:a.eval x = .slice A m c) (hr:Sl w A (bv news)) (hl:news.length = m)
  (hbytes:lo.length + news.length ≤ 140737488355328) (hbase:w0.heap.size ≤ w.heap.size)
  (h:∀ A' c' w',(lo ++ news).length ≤ c' → c' ≤ maxLen → OwnB w0 w' A' c' (lo ++ news) → w.grownBy w' (As.map (·.block)) →
   (A'.map (·.block) = As.map (·.block) ∨ A'.map (·.block) = some w.heap.size) → K (a.put o.dst (.slice A' (lo ++ news).length c')) w') :
  if Region.wanted o (yielded ops a.tmps) = true then Oper.wp Try.prog o a w K Q else E:=by
 have hw:Region.wanted o (yielded ops a.tmps) = true:=by simp [Region.wanted,hgd]
 rw [if_pos hw]
 subst hns
 refine wp_app w etBytes s x ho w0.heap.size _ lo.length (bv lo) hs hown A m c (bv news) hx hr (by simp [hl]) (bv_one _) (by rw [← hl];omega) hbase ?_
 intro v' w' h1 h2 h3
 rw [← bv_append] at h1
 have h1':=own_bv h1
 obtain ⟨A',c',rfl,hc1,hc2⟩:=own_form h1'
 rw [ownBlock_slice,ownBlock_slice] at h3
 rw [ownBlock_slice] at h2
 have e:lo.length + m = (lo ++ news).length:=by simp [hl]
 exact h A' c' w' hc1 hc2 h1' h2 h3
theorem str_cells (t:List UInt8):Lib.strCells (str t) = bv t:=by simp [Lib.strCells,str,bv,u8v]
theorem str_size (t:List UInt8):(str t).size = t.length:=rfl
set_option maxRecDepth 100000 in
theorem etext_any (w:World) (A:Option Addr) (c n:Nat) (l:List UInt8) (hn:l.length = n) (hs:Sl w A (bv l)) (hb:l.length ≤ 100000000000) (t:List UInt8) (ht:t.length ≤ 100000000000) :
  Calls Try.prog 45 #[.slice A n c,.string (str t)] w (NewBytes w (l ++ txB t)):=by
 subst hn
 obtain ⟨i,hi,hi2⟩:=Option.map_eq_some_iff.1 (show (Try.prog.info? 5).map (fun i=>(i.zero,i.size,i.bytes)) = some (some (.int .u8 0),1,1) by kernel_rfl)
 simp only [Prod.mk.injEq] at hi2
 have hz:=str_size t
 have HZ:=Lib.hid hz
 go_enter Try.func45,Try.ntmps45
 go_wp2_with fail
 go_at_call 23
 refine (enum_n w A c l _ rfl hs (by omega) t.length (by omega)).mono ?_
 rintro e w2 ⟨A2,c2,rfl,ho2,f2⟩
 have hnl:=numB_length t.length (by omega)
 have h1:(l ++ numB t.length).length + (str t).size ≤ 140737488355328:=by rw [HZ.out,List.length_append];omega
 have h2:(l ++ numB t.length).length + (str t).size ≤ maxLen:=by unfold maxLen;omega
 have hsz:=f2.size
 clear hz hnl
 generalize hL:l ++ numB t.length = L at ho2 h1 h2 ⊢
 have HL:=Lib.hid hL
 clear hL
 go_wp2_with (at_builtin;refine Lib.wpList_append_own_string _ rfl _ _ 25 9 rfl w.heap.size 5 i Try.underlying25 Try.underlying9 hi hi2.1 hi2.2.1 hi2.2.2 _ L.length (bv L) rfl ho2 (str t) rfl h2 h1 hsz ?_;intro v6 w6 ho6 hg6 hv6)
 go_ret
 rw [str_cells,← bv_append,← HL.out,List.append_assoc] at ho6
 have f6:Fr (fun b=>A2.map (·.block) = some b) w2 w6:=Fr.ofGrown (M:=fun b=>A2.map (·.block) = some b) hg6 (fun g hg=>by have hg':(Value.slice A2 L.length c2).ownBlock = some g:=hg;rw [ownBlock_slice] at hg';exact hg')
 have:=NewBytes.mk ho6 (f2.step f6 (fun b hb=>.inl (by
  cases A2 with
  | none=>cases hb
  | some a=>simp only [Option.map_some,Option.some.injEq] at hb;rw [← hb];exact (ho2.lt _ (by simp [Value.ownBlock])).1)))
 exact this
end Go.Proofs.Ytahllkifmmjbdaa
namespace Go.Proofs.Ytahllkifmmjbdaa
open Go.RowKit
def TookN (w:World) (p n:Nat) (s:RS) (Q:Nat → Prop) (e:Ending) (w':World):Prop :=
 Fr (oneB p) w w' ∧ Rdr w' p (rdTake n s).2 Q ∧ ∃ A c,e = .returned (.slice A (rdTake n s).1.length c) ∧ Sl w' A (bv (rdTake n s).1) ∧ Off A Q
set_option maxRecDepth 100000 in
theorem take_any (w:World) (p n:Nat) (s:RS) (Q:Nat → Prop) (h:Rdr w p s Q) (hQp:¬ Q p) (hlen:s.1.length ≤ 140737488355328) (hn:n ≤ 4611686018427387904) :
  Calls Try.prog 52 #[.pointer (some ⟨p,0,none⟩),.int .i64 (n:Int)] w (TookN w p n s Q):=by
 have hR:=h
 obtain ⟨l,bad⟩:=s
 obtain ⟨A,c,hb,hc,hs,ho⟩:=h
 simp only at hb hc hs hlen
 have h1:w.cell? ⟨p,0,none⟩ = some (.slice A l.length c):=hb.cell 0
 have h2:w.cell? ⟨p,1,none⟩ = some (.bool bad):=hb.cell 1
 have h3:=hb.frozen 0
 cases bad with
 | true =>
  have e1:rdTake n (l,true) = ([],([],true)):=by simp [rdTake]
  have H:=Lib.hid e1
  clear hb hs e1
  go_enter Try.func52,Try.ntmps52
  go_wp2_with (go_at_call 53;refine (fail_any _ _ _ _ hR).mono ?_;rintro e w' ⟨rfl,hr,hf⟩)
  go_ret
  unfold TookN
  rw [H.out]
  exact ⟨hf,hr,none,0,rfl,Sl.nil _ _,fun a ha=>by cases ha⟩
 | false =>
  by_cases hnl:l.length < n
  ·have e1:rdTake n (l,false) = ([],([],true)):=by simp [rdTake,hnl]
   have H:=Lib.hid e1
   have i1:(l.length:Int) < (n:Int):=by omega
   clear hb hs e1
   go_enter Try.func52,Try.ntmps52
   go_wp2_with (go_at_call 53;refine (fail_any _ _ _ _ hR).mono ?_;rintro e w' ⟨rfl,hr,hf⟩)
   go_ret
   unfold TookN
   rw [H.out]
   exact ⟨hf,hr,none,0,rfl,Sl.nil _ _,fun a ha=>by cases ha⟩
  ·have e1:rdTake n (l,false) = (l.take n,(l.drop n,false)):=by simp [rdTake,hnl]
   have H:=Lib.hid e1
   have i1:¬ (l.length:Int) < (n:Int):=by omega
   have i0:(0:Int) ≤ (n:Int):=by omega
   have i2:(n:Int) ≤ (l.length:Int):=by omega
   have i3:(n:Int) ≤ (c:Int):=by omega
   have i4:(n:Int) ≤ (n:Int):=by omega
   have hpp:=hb
   have HB:=Lib.hid hb
   have HS:=Lib.hid hs
   clear hb hs e1 hpp
   go_enter Try.func52,Try.ntmps52
   go_wp2
   go_ret
   unfold TookN
   rw [H.out]
   have htl:(l.take n).length = n:=by rw [List.length_take];omega
   have hdl:(l.drop n).length = l.length - n:=List.length_drop ..
   have hF:Fr (oneB p) w (w.setCell ⟨p,0,none⟩ (.slice (cutA A c n 1) (l.length - n) (c - n))):=(Fr.refl (oneB p) w).setCell (p:=⟨p,0,none⟩) (fun _=>rfl) _
   have hoff:Off A (fun b=>¬ oneB p b):=ho.mono (fun b hb he=>by have:b = p:=he;subst this;exact hQp hb)
   refine ⟨hF,⟨cutA A c n 1,c - n,?_,?_,?_,Off.cut ho⟩,A,n,?_,(HS.out.takeB (k:=n)).fr hF hoff,ho⟩
   ·have:=HB.out.set 0 (.slice (cutA A c n 1) (l.length - n) (c - n))
    rw [hdl]
    simpa using this
   ·rw [hdl];omega
   ·exact (HS.out.cutB (k:=n) (c:=c) hc).fr hF (Off.cut hoff)
   ·rw [htl];simp
set_option maxRecDepth 100000 in
theorem done_any (w:World) (p:Nat) (s:RS) (Q:Nat → Prop) (h:Rdr w p s Q) :
  Calls Try.prog 33 #[.pointer (some ⟨p,0,none⟩)] w fun e w'=>e = .returned (.bool (decide (s = ([],false)))) ∧ w' = w:=by
 obtain ⟨l,bad⟩:=s
 obtain ⟨A,c,hb,hc,hs,ho⟩:=h
 simp only at hb hc hs
 have h1:w.cell? ⟨p,0,none⟩ = some (.slice A l.length c):=hb.cell 0
 have h2:w.cell? ⟨p,1,none⟩ = some (.bool bad):=hb.cell 1
 clear hb hs
 cases bad with
 | true =>
  go_enter Try.func33,Try.ntmps33
  go_wp2_with fail
  go_ret
  exact ⟨by simp,rfl⟩
 | false =>
  cases l with
  | nil =>
   simp only [List.length_nil] at h1
   go_enter Try.func33,Try.ntmps33
   go_wp2_with fail
   go_ret
   exact ⟨by simp,rfl⟩
  | cons b t =>
   simp only [List.length_cons] at h1
   have hne:(((t.length + 1:Nat):Int) == 0) = false:=by rw [beq_eq_false_iff_ne];omega
   have hne2:(((t.length:Int) + 1) == 0) = false:=by rw [beq_eq_false_iff_ne];omega
   go_enter Try.func33,Try.ntmps33
   go_wp2_with fail
   go_ret
   exact ⟨by simp,rfl⟩
def RdrOf (w:World) (p:Nat) (v:Value) (s:RS) (Q:Nat → Prop) (e:Ending) (w':World):Prop:=e = .returned v ∧ Rdr w' p s Q ∧ Fr (oneB p) w w'
theorem rdNum_bd (most:Nat) (s:RS):(rdNum most s).1 ≤ most ∧ (rdNum most s).2.1.length ≤ s.1.length:=by
 rcases rdNum_or (most:=most) (s:=s) (n:=(rdNum most s).1) (s':=(rdNum most s).2) rfl with ⟨h1,h2,_⟩ | ⟨_,_,_,h1,h2,_⟩
 ·rw [h1,h2];exact ⟨Nat.zero_le _,Nat.zero_le _⟩
 ·exact ⟨h1,Nat.le_of_lt h2⟩
theorem rdTake_len (n:Nat) (s:RS):(rdTake n s).2.1.length ≤ s.1.length:=by
 unfold rdTake
 split
 ·exact Nat.zero_le _
 ·simp
theorem rdText_len (most:Nat) (s:RS):(rdText most s).2.1.length ≤ s.1.length:=Nat.le_trans (rdTake_len _ _) (rdNum_bd most s).2
set_option maxRecDepth 100000 in
theorem rtext_any (w:World) (p:Nat) (s:RS) (Q:Nat → Prop) (h:Rdr w p s Q) (hQp:¬ Q p) (hlen:s.1.length ≤ 140737488355328) (most:Nat) (hm:most ≤ 4611686018427387904) :
  Calls Try.prog 54 #[.pointer (some ⟨p,0,none⟩),.int .i64 (most:Int)] w (RdrOf w p (.string (str (rdText most s).1)) (rdText most s).2 Q):=by
 have hbd:=rdNum_bd most s
 have hrt:rdText most s = rdTake (rdNum most s).1 (rdNum most s).2:=rfl
 rw [hrt]
 clear hrt
 obtain ⟨n,s1,hh⟩:∃ n s1,rdNum most s = (n,s1):=⟨_,_,rfl⟩
 rw [hh] at hbd ⊢
 simp only at hbd ⊢
 have HH:=Lib.hid hh
 have HBD:=Lib.hid hbd
 clear hh hbd
 go_enter Try.func54,Try.ntmps54
 go_wp2_with fail
 go_at_call 30
 refine (num_eq w p s Q most hm h hlen n s1 HH.out).mono ?_
 rintro e w1 ⟨rfl,hr1,hf1⟩
 go_wp2_with fail
 go_at_call 52
 refine (take_any w1 p n s1 Q hr1 hQp (by have:=HBD.out;omega) (by have:=HBD.out;omega)).mono ?_
 rintro e w2 ⟨hf2,hr2,A,c,rfl,hs2,ho2⟩
 have hcv:=conv_str w2 A _ c _ rfl hs2
 go_wp2_with fail
 go_ret
 exact ⟨rfl,hr2,hf1.trans hf2 (fun b _ h=>h)⟩
end Go.Proofs.Ytahllkifmmjbdaa
