/- Plain: UTF-8: bytes of 128 or more give runes of 128 or more, and are decoded apart from lesser ones. Contracts: strings.IndexRune at runes of 128 or more, strings.IndexAny and ContainsAny at "\x00/\n"; stamp.Name. Contracts: strings.IndexAny, ContainsAny at "\x00/\n"; stamp.Name. -/
import Derived.Laws.RangeString
import Derived.Lib.IndexAny
import Derived.Test.YtnkdnbjmhoegkaaGreatStWKq
import Derived.Test.YtnkdnbjmhoegkaaGreatStrsKq
import Derived.Test.YtnkdnbjmhoegkaaGreatShelfKq
import Derived.Deep.QuietTactic
import Derived.BigQuiet
import Derived.Deep.LoopGhost
import Derived.IntWalk
import Derived.WalkMore
import Derived.Lib.OthersKept
import Derived.Test.YtnkdnbjmhoegkaaGreatBoxOKq
set_option linter.unusedVariables false
set_option linter.unusedSimpArgs false
namespace Go.Proofs.YtnkdnbjmhoegkaaGreat
theorem get_at {s:ByteArray} {i:Nat} (h:i < s.size):s.data.toList[i]? = some (s.get! i):=by
 have e:s.get! i = s[i]'h:=by
  simp [ByteArray.get!,getElem!_pos,h]
  rfl
 rw [e]
 exact Lib.data_getElem? s i h
structure DecHi (s:ByteArray) (pos r n:Nat):Prop where
 eq:Utf8.decode s pos = (r,n)
 lo:128 ≤ r
 hi:r ≤ 1114111
 valid:Utf8.valid (r:Int) = true
 n1:1 ≤ n
 le:pos + n ≤ s.size
 bytes:∀ j x,pos ≤ j → j < pos + n → s.data.toList[j]? = some x → 128 ≤ x.toNat
theorem dec_high (s:ByteArray) (pos:Nat) (h:pos < s.size) (hb:128 ≤ (s.get! pos).toNat):∃ r n,DecHi s pos r n:=by
 have hbyte:∀ n,(∀ k,k < n → 128 ≤ (s.get! (pos + k)).toNat) → pos + n ≤ s.size → ∀ j x,pos ≤ j → j < pos + n → s.data.toList[j]? = some x → 128 ≤ x.toNat:=by
  intro n hk hn j x h1 h2 hx
  have:=get_at (s:=s) (i:=j) (by omega)
  rw [this] at hx
  injection hx with hx
  subst hx
  have:=hk (j - pos) (by omega)
  rwa [show pos + (j - pos) = j by omega] at this
 have h0:∀ k,k < 1 → 128 ≤ (s.get! (pos + k)).toNat:=fun k hk=>by
  have:k = 0:=by omega
  subst this;exact hb
 have bad:Utf8.decode s pos = (Utf8.runeError,1) → ∃ r n,DecHi s pos r n:=fun e =>
  ⟨_,_,e,by decide,by decide,by decide,by decide,by omega,hbyte 1 h0 (by omega)⟩
 have hb0:¬ (s.get! (pos + 0)).toNat < 128:=by rw [Nat.add_zero];omega
 have hlt (x:UInt8):x.toNat < 256:=x.toNat_lt
 have l0:=hlt (s.get! (pos + 0))
 have l1:=hlt (s.get! (pos + 1))
 have l2:=hlt (s.get! (pos + 2))
 have l3:=hlt (s.get! (pos + 3))
 obtain ⟨D,hD⟩:∃ D,Utf8.decode s pos = D:=⟨_,rfl⟩
 have HE:=hD
 simp only [Utf8.decode,hb0,if_false] at hD
 by_cases c1:(((s.get! (pos + 0)).toNat / 32 == 6) && (decide (pos + 1 < s.size) && ((s.get! (pos + 1)).toNat / 64 == 2))) = true
 ·rw [if_pos c1] at hD
  simp only [Bool.and_eq_true,beq_iff_eq,decide_eq_true_eq] at c1
  obtain ⟨a1,a2,a3⟩:=c1
  split at hD
  ·rename_i hc
   refine ⟨_,_,HE.trans hD.symm,by omega,by omega,?_,by omega,by omega,hbyte 2 (fun k hk=>?_) (by omega)⟩
   ·simp only [Utf8.valid,Bool.or_eq_true,Bool.and_eq_true,decide_eq_true_eq]
    left;omega
   ·match k with
    | 0=>exact h0 0 (by omega)
    | 1=>omega
  ·exact bad (HE.trans hD.symm)
 ·rw [if_neg c1] at hD
  by_cases c2:(((s.get! (pos + 0)).toNat / 16 == 14) && (decide (pos + 1 < s.size) && ((s.get! (pos + 1)).toNat / 64 == 2)) && (decide (pos + 2 < s.size) && ((s.get! (pos + 2)).toNat / 64 == 2))) = true
  ·rw [if_pos c2] at hD
   simp only [Bool.and_eq_true,beq_iff_eq,decide_eq_true_eq] at c2
   obtain ⟨⟨a1,a2,a3⟩,a4,a5⟩:=c2
   split at hD
   ·rename_i hc
    simp only [Bool.and_eq_true,decide_eq_true_eq] at hc
    refine ⟨_,_,HE.trans hD.symm,by omega,by omega,hc.2,by omega,by omega,hbyte 3 (fun k hk=>?_) (by omega)⟩
    match k with
    | 0=>exact h0 0 (by omega)
    | 1=>omega
    | 2=>omega
   ·exact bad (HE.trans hD.symm)
  ·rw [if_neg c2] at hD
   by_cases c3:(((s.get! (pos + 0)).toNat / 8 == 30) && (decide (pos + 1 < s.size) && ((s.get! (pos + 1)).toNat / 64 == 2)) && (decide (pos + 2 < s.size) && ((s.get! (pos + 2)).toNat / 64 == 2)) && (decide (pos + 3 < s.size) && ((s.get! (pos + 3)).toNat / 64 == 2))) = true
   ·rw [if_pos c3] at hD
    simp only [Bool.and_eq_true,beq_iff_eq,decide_eq_true_eq] at c3
    obtain ⟨⟨⟨a1,a2,a3⟩,a4,a5⟩,a6,a7⟩:=c3
    split at hD
    ·rename_i hc
     simp only [Bool.and_eq_true,decide_eq_true_eq] at hc
     have hv:=hc.2
     simp only [Utf8.valid,Bool.or_eq_true,Bool.and_eq_true,decide_eq_true_eq] at hv
     refine ⟨_,_,HE.trans hD.symm,by omega,by omega,hc.2,by omega,by omega,hbyte 4 (fun k hk=>?_) (by omega)⟩
     match k with
     | 0=>exact h0 0 (by omega)
     | 1=>omega
     | 2=>omega
     | 3=>omega
    ·exact bad (HE.trans hD.symm)
   ·rw [if_neg c3] at hD
    exact bad (HE.trans hD.symm)
structure EncHi (r m:Nat):Prop where
 size:(Utf8.encode (r:Int)).size = m
 m2:2 ≤ m
 m4:m ≤ 4
 last:∃ x,(Utf8.encode (r:Int)).data.toList[m - 1]? = some x ∧ 128 ≤ x.toNat
theorem u8_hi (a:Nat) (h:a < 64):128 ≤ (UInt8.ofNat (128 + a)).toNat:=by
 rw [UInt8.toNat_ofNat',Nat.mod_eq_of_lt (by omega)];omega
theorem enc_high (r:Nat) (h:128 ≤ r) (hv:Utf8.valid (r:Int) = true):∃ m,EncHi r m:=by
 have e:Utf8.encode (r:Int) = (let c:=r;let b (n:Nat):UInt8:=UInt8.ofNat n
   if c < 0x80 then ⟨#[b c]⟩
   else if c < 0x800 then ⟨#[b (0xC0 + c / 64),b (0x80 + c % 64)]⟩
   else if c < 0x10000 then ⟨#[b (0xE0 + c / 4096),b (0x80 + c / 64 % 64),b (0x80 + c % 64)]⟩
   else ⟨#[b (0xF0 + c / 262144),b (0x80 + c / 4096 % 64),b (0x80 + c / 64 % 64),b (0x80 + c % 64)]⟩):=by
  unfold Utf8.encode
  simp only [hv,if_true,Int.toNat_natCast]
 simp only at e
 rw [if_neg (by omega)] at e
 have hlast:=u8_hi (r % 64) (Nat.mod_lt _ (by omega))
 by_cases h1:r < 0x800
 ·rw [if_pos h1] at e
  exact ⟨2,by rw [e];rfl,by decide,by decide,⟨_,by rw [e];rfl,hlast⟩⟩
 ·rw [if_neg h1] at e
  by_cases h2:r < 0x10000
  ·rw [if_pos h2] at e
   exact ⟨3,by rw [e];rfl,by decide,by decide,⟨_,by rw [e];rfl,hlast⟩⟩
  ·rw [if_neg h2] at e
   exact ⟨4,by rw [e];rfl,by decide,by decide,⟨_,by rw [e];rfl,hlast⟩⟩
end Go.Proofs.YtnkdnbjmhoegkaaGreat
namespace Go.Proofs.YtnkdnbjmhoegkaaGreat
open Go.RowKit
abbrev chs:ByteArray:={ data:=#[0,47,10] }
def Iter3 (w:World) (e:Ending) (w':World):Prop:=e = .returned (.int .i64 (-1)) ∧ Fr noB w w'
theorem fr_iter (w:World) (s:ByteArray) (p:Nat):Fr noB w (w.iter s p):=(Fr.refl noB w).alloc _
set_option maxRecDepth 100000 in
theorem idxRune_err (w:World):Calls Tryz.prog 111 #[.string chs,.int .i32 65533] w (Iter3 w):=by
 have n0:=fun ty=>run_next_ascii (P:=Tryz.prog) w chs 0 ty (by decide) (by decide)
 have n1:=fun ty=>run_next_ascii (P:=Tryz.prog) w chs 1 ty (by decide) (by decide)
 have n2:=fun ty=>run_next_ascii (P:=Tryz.prog) w chs 2 ty (by decide) (by decide)
 have n3:=fun ty=>run_next_end (P:=Tryz.prog) w chs 3 ty (by decide)
 have e0:(((chs[0]'(by decide)).toNat:Nat):Int) = 0:=by decide
 have e1:(((chs[1]'(by decide)).toNat:Nat):Int) = 47:=by decide
 have e2:(((chs[2]'(by decide)).toNat:Nat):Int) = 10:=by decide
 simp only [e0,e1,e2,Nat.zero_add,Nat.reduceAdd] at n0 n1 n2 n3
 clear e0 e1 e2
 go_enter Tryz.func111,Tryz.ntmps111
 go_wp2_with fail
 refine wp_loop_rounds 4 ?_
 rw [rounds_succ]
 go_wp2_with fail
 rw [rounds_succ]
 go_wp2_with fail
 rw [rounds_succ]
 go_wp2_with fail
 rw [rounds_succ]
 go_wp2_with fail
 go_ret
 exact ⟨rfl,fr_iter _ _ _⟩
@[irreducible] noncomputable def cvR (w:World) (v:Value):Result Next:=((convert 21 9 v).run Tryz.prog w).andThen (fun v w=>.ok (.value v) w)
@[simp ↓] theorem ex_cvR (ρ:Operand → Value) (a:Operand) (d:Option Nat) (t:TypeId) (p:String) (f:Array Edge) (g:Option (Nat × Bool)) (w:World) :
  (execOp ρ { dst:=d,op:=.convert 21 9 a,type:=t,pos:=p,after:=f,guard:=g }).run Tryz.prog w = cvR w (ρ a):=by
 unfold execOp cvR
 simp only [Sem.run_bind,Sem.run_pure]
theorem idxb_hi (l:List UInt8) (x:UInt8) (h:∀ y ∈ l,y ≠ x):Lib.indexByte l x = -1:=by
 induction l with
 | nil=>rfl
 | cons b l ih =>
  have h1:(b == x) = false:=by simpa using h b (by simp)
  rw [Lib.indexByte,h1,ih (fun y hy=>h y (by simp [hy]))]
  rfl
set_option maxRecDepth 100000 in
theorem idxRune_hi (w:World) (r:Nat) (h0:128 ≤ r) (h1:r ≤ 1114111) (hv:Utf8.valid (r:Int) = true) (hne:r ≠ 65533):Calls Tryz.prog 111 #[.string chs,.int .i32 (r:Int)] w (Iter3 w):=by
 obtain ⟨m,hm⟩:=enc_high r h0 hv
 obtain ⟨hs,hm2,hm4,x,hx,hxl⟩:=hm
 have hval:Lib.validRune (r:Int) = true:=by
  simp only [Utf8.valid,Bool.or_eq_true,Bool.and_eq_true,decide_eq_true_eq] at hv
  simp only [Lib.validRune,Bool.or_eq_true,Bool.and_eq_true,decide_eq_true_eq]
  omega
 have b1:((r:Int) == 65533) = false:=by rw [beq_eq_false_iff_ne];omega
 have i1:¬ (r:Int) < 128:=by omega
 have i0:(0:Int) ≤ (r:Int):=by omega
 clear hv h1 hne
 have hcv:cvR w (.int .i32 (r:Int)) = .ok (.value (.string (Utf8.encode (r:Int)))) w:=by
  unfold cvR
  simp only [convert,Sem.run_bind,run_underlying Tryz.underlying21,run_underlying Tryz.underlying9,Result.andThen_ok,Conv.intToString,Sem.run_pure]
 generalize hE:Utf8.encode (r:Int) = E at hs hx hcv
 have hlast:∀ h:m - 1 < E.size,E[m - 1]'h = x:=fun h=>by
  have:=Lib.data_getElem? E (m - 1) h
  exact (Option.some.inj (hx.symm.trans this)).symm
 have ne (c:UInt8) (hc:c.toNat < 128):c ≠ x:=fun e=>by subst e;omega
 match m,hm2,hm4 with
 | 2,_,_ =>
  have l1:∀ h,E[1]'h = x:=hlast
  have l2:∀ h,chs[1]'h = 47:=fun _=>rfl
  have hsz:chs.size = 3:=rfl
  have hsl:chs.extract 2 3 = str [10]:=by decide
  have c1:((47:Int) != (x.toNat:Int)) = true:=by rw [bne_iff_ne];omega
  have k1:Lib.indexByte (str [10]).data.toList x = -1:=idxb_hi [10] x (fun y hy=>by simp at hy;subst hy;exact ne _ (by decide))
  have hback:((x.toNat:Int)).toNat.toUInt8 = x:=by simp
  have w1:IntKind.i64.wrap 2 = 2:=by decide
  clear hlast hx ne h0 hE
  generalize hchs:chs = S at l2 hsz hsl ⊢
  generalize hr:str [10] = R at hsl k1
  clear hr hchs
  go_enter Tryz.func111,Tryz.ntmps111
  go_wp2_with (go_at_call 116;refine (Tryz.utf8_ValidRune _ _).mono ?_;rintro e w0 ⟨rfl,rfl⟩)
  go_step3
  go_wp2_with fail
  refine wp_loop_rounds 2 ?_
  rw [rounds_succ]
  go_wp2_with fail
  go_step3
  go_wp2_with fail
  go_quiet (fail)
  have f1:=(Fr.refl noB w0).drewN nq
  generalize w0.drewN nq = W2 at f1 ⊢
  go_wp2_with fail
  go_quiet ((go_at_call 115;exact Calls.quiet_of_same (Tryz.strings_IndexByte _ _ _)))
  clear hsl l1 l2 hsz hs
  have k2:Lib.indexByte ByteArray.empty.data.toList x = -1:=rfl
  simp only [hback,k1,k2]
  go_wp2_with fail
  go_ret
  exact ⟨rfl,f1.drewN _⟩
 | 3,_,_ =>
  have l1:∀ h,E[2]'h = x:=hlast
  have l2:∀ h,chs[2]'h = 10:=fun _=>rfl
  have hsz:chs.size = 3:=rfl
  have hsl:chs.extract 3 3 = str []:=by decide
  have c1:((10:Int) != (x.toNat:Int)) = true:=by rw [bne_iff_ne];omega
  have k1:Lib.indexByte (str []).data.toList x = -1:=idxb_hi [] x (fun y hy=>by simp at hy)
  have hback:((x.toNat:Int)).toNat.toUInt8 = x:=by simp
  have w1:IntKind.i64.wrap 3 = 3:=by decide
  clear hlast hx ne h0 hE
  generalize hchs:chs = S at l2 hsz hsl ⊢
  generalize hr:str [] = R at hsl k1
  clear hr hchs
  go_enter Tryz.func111,Tryz.ntmps111
  go_wp2_with (go_at_call 116;refine (Tryz.utf8_ValidRune _ _).mono ?_;rintro e w0 ⟨rfl,rfl⟩)
  go_step3
  go_wp2_with fail
  refine wp_loop_rounds 2 ?_
  rw [rounds_succ]
  go_wp2_with fail
  go_step3
  go_wp2_with fail
  go_quiet (fail)
  have f1:=(Fr.refl noB w0).drewN nq
  generalize w0.drewN nq = W2 at f1 ⊢
  go_wp2_with fail
  go_quiet ((go_at_call 115;exact Calls.quiet_of_same (Tryz.strings_IndexByte _ _ _)))
  clear hsl l1 l2 hsz hs
  have k2:Lib.indexByte ByteArray.empty.data.toList x = -1:=rfl
  simp only [hback,k1,k2]
  go_wp2_with fail
  go_ret
  exact ⟨rfl,f1.drewN _⟩
 | 4,_,_ =>
  have hsz:chs.size = 3:=rfl
  clear hlast hx ne h0 hE
  generalize hchs:chs = S at hsz ⊢
  clear hchs
  go_enter Tryz.func111,Tryz.ntmps111
  go_wp2_with (go_at_call 116;refine (Tryz.utf8_ValidRune _ _).mono ?_;rintro e w0 ⟨rfl,rfl⟩)
  go_step3
  go_wp2_with fail
  refine wp_loop_rounds 2 ?_
  rw [rounds_succ]
  go_wp2_with fail
  go_ret
  exact ⟨rfl,Fr.refl _ _⟩
theorem idxRune_no (w:World) (r:Nat) (h0:128 ≤ r) (h1:r ≤ 1114111) (hv:Utf8.valid (r:Int) = true):Calls Tryz.prog 111 #[.string chs,.int .i32 (r:Int)] w (Iter3 w):=by
 by_cases h:r = 65533
 ·subst h;exact idxRune_err w
 ·exact idxRune_hi w r h0 h1 hv h
def hasB (l:List UInt8):Bool:=l.any fun b=>decide (b = 0) || decide (b = 47) || decide (b = 10)
end Go.Proofs.YtnkdnbjmhoegkaaGreat
namespace Go.Proofs.YtnkdnbjmhoegkaaGreat
open Go.RowKit
def IdxR (w:World) (s C:ByteArray) (g:Nat) (wx:World):Prop:=∃ i,i ≤ s.size ∧ g = s.size - i ∧ wx.heap[w.heap.size]? = some (.stringIter s i) ∧ Fr noB w wx ∧ Lib.NoAny s.data.toList C.data.toList i
def IdxTo (w:World) (s:ByteArray) (e:Ending) (w':World):Prop:=e = .returned (.int .i64 (Lib.indexAny s.data.toList chs.data.toList)) ∧ Fr noB w w'
theorem iterAt_fr {w wx:World} {s:ByteArray} {i:Nat} (h:wx.heap[w.heap.size]? = some (.stringIter s i)) (f:Fr noB w wx) (j:Nat):Fr noB w (wx.iterAt w.heap.size s j) ∧ (wx.iterAt w.heap.size s j).heap[w.heap.size]? = some (.stringIter s j):=by
 have hl:=(Array.getElem?_eq_some_iff.1 h).1
 obtain ⟨g1,g2,g3⟩:=frameMapB hl (.stringIter s j)
 exact ⟨f.step1 g1 (Nat.le_refl _),g3⟩
theorem chs_ascii:∀ (j:Nat) b,chs.data.toList[j]? = some b → b.toNat < 128:=by
 intro j b h
 match j with
 | 0=>simp at h;subst h;decide
 | 1=>simp at h;subst h;decide
 | 2=>simp at h;subst h;decide
 | j + 3=>simp at h
set_option maxRecDepth 100000 in
set_option maxHeartbeats 1000000 in
theorem idxAny_short (w:World) (s:ByteArray) (h8:s.size ≤ 8):Calls Tryz.prog 110 #[.string s,.string chs] w (IdxTo w s):=by
 have hemp:chs.toList.isEmpty = false:=by rw [Lib.toList_data];rfl
 have hn1:((chs.size:Int) == 1) = false:=by decide
 have h8z:decide ((8:Int) < (s.size:Int)) = false:=decide_eq_false (by omega)
 have hca:=Lib.hid chs_ascii
 have hcn:=fun x:UInt8=>Lib.contains_iff_indexByte chs.data.toList x
 have HCN:=Lib.hid hcn
 have HNO:=Lib.hid (fun (w:World) (r:Nat) h0 h1 hv=>idxRune_no w r h0 h1 hv)
 have HAS:=Lib.hid (fun (w:World) (r:Int) h0 h1=>Tryz.strings_IndexRune_ascii chs r w h0 h1)
 unfold IdxTo
 generalize hchs:chs = C at hemp hn1 hcn HCN HNO HAS ⊢
 clear hcn
 go_enter Tryz.func110,Tryz.ntmps110
 go_wp2_with (go_at_call 112;refine (Tryz.strings_shouldUseASCIISet _ _).mono ?_;rintro e w0 ⟨rfl,hw⟩;rw [hw,h8z])
 go_loopg [9,10] s.size (fun g _ _ wx=>IdxR w s C g wx)
 case atStart=>exact ⟨0,by omega,by omega,(by first | exact World.iter_heap _ _ _ | exact World.iter_heap w0 _ _),fr_iter _ _ _,Lib.NoAny.zero _ _⟩
 case round =>
  obtain ⟨i,hi,rfl,hit,hf,hno⟩:=hrel
  have HNA:=Lib.hid hno
  clear hno
  by_cases hlt:i < s.size
  ·have hg:=get_at hlt
   by_cases h128:(s[i]'hlt).toNat < 128
   ·have hnx:=fun ty=>Lib.run_next_ascii_at (P:=Tryz.prog) wr w.heap.size s i ty hit hlt h128
    obtain ⟨f1,it1⟩:=iterAt_fr hit hf (i + 1)
    have hv:s.data.toList[i]? = some (s[i]'hlt):=Lib.data_getElem? s i hlt
    generalize s[i]'hlt = x at hnx h128 hv hg
    generalize wr.iterAt w.heap.size s (i + 1) = w1 at hnx f1 it1
    have HV:=Lib.hid hv
    have IT:=Lib.hid it1
    clear hg hv it1 hit
    have hback:((x.toNat:Int)).toNat.toUInt8 = x:=by simp
    have i0:(0:Int) ≤ (x.toNat:Int):=by omega
    have i1:(x.toNat:Int) < 128:=by omega
    have hcon:=HCN.out x
    cases hin:C.data.toList.contains x
    ·have HIN:=Lib.hid hin
     rw [hin] at hcon
     have hlt2:¬ ((0:Int) ≤ Lib.indexByte C.data.toList x):=of_decide_eq_false hcon.symm
     clear hcon hin
     go_wp2_with (go_at_call 111;refine (HAS.out _ _ (by omega) (by omega)).mono ?_;rintro e w2 ⟨rfl,hw⟩;rw [hw,hback])
     go_roundg (s.size - (i + 1))
     case measure=>omega
     case rel=>exact ⟨i + 1,by omega,rfl,IT.out,f1,HNA.out.succ HV.out HIN.out⟩
    ·have HIN:=Lib.hid hin
     rw [hin] at hcon
     have hge:((0:Int) ≤ Lib.indexByte C.data.toList x):=of_decide_eq_true hcon.symm
     clear hcon hin
     go_wp2_with (go_at_call 111;refine (HAS.out _ _ (by omega) (by omega)).mono ?_;rintro e w2 ⟨rfl,hw⟩;rw [hw,hback])
     go_ret
     exact ⟨by rw [← Lib.indexAny_hit HNA.out HV.out HIN.out];rfl,f1⟩
   ·have hb:128 ≤ (s.get! i).toNat:=by
     have e:s.get! i = s[i]'hlt:=by simp [ByteArray.get!,getElem!_pos,hlt];rfl
     rw [e];omega
    obtain ⟨r,n,hd⟩:=dec_high s i hlt hb
    have hnx:=fun ty=>Lib.run_next_any_at (P:=Tryz.prog) wr w.heap.size s i ty hit hlt
    rw [hd.eq] at hnx
    simp only at hnx
    obtain ⟨f1,it1⟩:=iterAt_fr hit hf (i + n)
    generalize wr.iterAt w.heap.size s (i + n) = w1 at hnx f1 it1
    have HD:=Lib.hid hd
    have IT:=Lib.hid it1
    clear hg h128 hb it1 hit hd
    go_wp2_with (go_at_call 111;refine (HNO.out _ r HD.out.lo HD.out.hi HD.out.valid).mono ?_;rintro e w2 ⟨rfl,hw⟩)
    go_roundg (s.size - (i + n))
    case measure=>have:=HD.out.n1;omega
    case rel=>exact ⟨i + n,HD.out.le,rfl,(hw.block _ (Array.getElem?_eq_some_iff.1 IT.out).1 (by simp [noB])).trans IT.out,f1.step0 hw,fun j b hj hb=>by
     rcases Nat.lt_or_ge j i with h | h
     ·exact HNA.out j b h hb
     ·have:=HD.out.bytes j b h hj hb
      subst hchs
      simp only [List.contains_eq_mem,List.mem_cons,List.not_mem_nil,or_false,decide_eq_false_iff_not,not_or]
      refine ⟨?_,?_,?_⟩ <;> (rintro rfl;revert this;decide)⟩
  ·have hnx:=fun ty=>Lib.run_next_end_at (P:=Tryz.prog) wr w.heap.size s i ty hit hlt
   obtain rfl:i = s.size:=by omega
   have hres:Lib.indexAny s.data.toList C.data.toList = -1:=by subst hchs;exact Lib.indexAny_none (by rw [← Lib.size_eq];exact HNA.out)
   have HR:=Lib.hid hres
   clear hres hlt hi hit
   go_wp2_with fail
   go_ret
   exact ⟨by rw [HR.out];rfl,hf⟩
theorem idxAny_chs (w:World) (s:ByteArray) (hs:s.size < 4294967281):Calls Tryz.prog 110 #[.string s,.string chs] w (IdxTo w s):=by
 by_cases h8:s.size ≤ 8
 ·exact idxAny_short w s h8
 ·refine (Tryz.strings_IndexAny_long (fun w=>(zero_of_info (P:=Tryz.prog) (t:=169) (v:=.agg (Array.replicate 256 (.bool false))) (n:=256) (by kernel_rfl)).1 w) s chs w (by decide) (by omega) hs (by decide) chs_ascii).mono ?_
  rintro e w' ⟨rfl,rfl⟩
  exact ⟨rfl,((Fr.refl _ _).alloc _).alloc _⟩
theorem hasB_contains (b:UInt8):chs.data.toList.contains b = (decide (b = 0) || decide (b = 47) || decide (b = 10)):=by
 rw [Bool.eq_iff_iff]
 simp [or_assoc]
theorem indexAny_has (C:List UInt8) (hC:∀ b,C.contains b = (decide (b = 0) || decide (b = 47) || decide (b = 10))) (l:List UInt8):decide (0 ≤ Lib.indexAny l C) = hasB l:=by
 induction l with
 | nil=>rfl
 | cons b l ih =>
  have hge:=Lib.indexAny_ge C l
  unfold hasB at ih ⊢
  rw [List.any_cons,← ih,Lib.indexAny,← hC]
  cases C.contains b
  ·simp only [Bool.false_eq_true,if_false,Bool.false_or]
   split
   ·rename_i h;rw [beq_iff_eq.1 h]
   ·rename_i h
    have h':Lib.indexAny l C ≠ -1:=by simpa using h
    rw [decide_eq_true (by omega),decide_eq_true (by omega)]
  ·rfl
set_option maxRecDepth 100000 in
theorem containsAny_chs (w:World) (s:ByteArray) (hs:s.size < 4294967281):Calls Tryz.prog 109 #[.string s,.string chs] w (Gives w (.bool (hasB s.data.toList))):=by
 have h1:=Lib.hid (idxAny_chs w s hs)
 have h2:=Lib.hid (indexAny_has _ hasB_contains s.data.toList)
 unfold IdxTo at h1
 generalize hchs:chs = C at h1 h2 ⊢
 clear hchs
 go_enter Tryz.func109,Tryz.ntmps109
 go_wp2_with fail
 go_at_call 110
 refine h1.out.mono ?_
 rintro e w1 ⟨rfl,hf⟩
 go_wp2_with fail
 go_ret
 exact ⟨by rw [← h2.out];rfl,hf⟩
end Go.Proofs.YtnkdnbjmhoegkaaGreat
