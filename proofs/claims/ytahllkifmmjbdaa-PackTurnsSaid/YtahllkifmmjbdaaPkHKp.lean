/- delta.Make: words for its walk. Contract: pack.once. -/
import Derived.Test.YtahllkifmmjbdaaPkEKp
import Derived.Test.YtahllkifmmjbdaaPkCKp
import Derived.Test.YtahllkifmmjbdaaDifDKp
import Derived.Deep.LoopGhost
set_option linter.unusedVariables false
set_option linter.unusedSimpArgs false
namespace Go.Proofs.Ytahllkifmmjbdaa
open Go.RowKit Go.Maps
def MakeTo (w:World) (r:Except Nat (List UInt8)) (e:Ending) (w':World):Prop :=
 ∃ A c,e = .returned (.tuple #[.slice A (resB r).length c,.int .i64 (resE r)]) ∧ (resB r).length ≤ c ∧ Sl w' A (bv (resB r)) ∧ Fr noB w w'
theorem own_own_ne {w:World} {b1 b2:Nat} {e1 e2:TypeId} {s1 s2 n1 n2:Nat} {v1 v2:Value} {x1 x2:List Value} (h1:w.ownsRow b1 e1 s1 v1 n1 x1) (h2:w.ownsRow b2 e2 s2 v2 n2 x2) (hne:e1 ≠ e2) :
  ∀ g,v1.ownBlock = some g → v2.ownBlock ≠ some g:=by
 intro g hg1 hg2
 rcases h1.2 with ⟨rfl,_⟩ | ⟨g1,c1,cur1,rfl,_,hh1,_⟩
 ·simp [Value.ownBlock] at hg1
 rcases h2.2 with ⟨rfl,_⟩ | ⟨g2,c2,cur2,rfl,_,hh2,_⟩
 ·simp [Value.ownBlock] at hg2
 have e1':g1 = g:=by simpa [Value.ownBlock] using hg1
 have e2':g2 = g:=by simpa [Value.ownBlock] using hg2
 subst e1';subst e2'
 rw [hh1] at hh2
 injection hh2 with hh2
 injection hh2 with _ ht
 exact hne ht
theorem mapF_ne_own {κ:Type} {enc:κ → Value} {w:World} {r:Nat} {f:κ → Option Value} (hM:MapF enc w r f) {b e s n:Nat} {v:Value} {xs:List Value} (ho:w.ownsRow b e s v n xs):∀ g,v.ownBlock = some g → g ≠ r:=by
 intro g hg
 obtain ⟨es,clock,hr,_⟩:=hM
 rcases ho.2 with ⟨rfl,_⟩ | ⟨g',cap,cur,rfl,_,hh,_⟩
 ·simp [Value.ownBlock] at hg
 ·have e':g' = g:=by simpa [Value.ownBlock] using hg
  subst e'
  rintro rfl
  rw [hr] at hh;cases hh
theorem flush_any (w:World) (p:Nat) (A:Option Addr) (nb cb:Nat) (T:Option Addr) (ct:Nat) (target:List UInt8) (mv:Value) (O:Option Addr) (co:Nat) (out:List UInt8) (own at_:Nat) (v:Int) (hv:v = (at_:Int))
  (h:MkB w p A nb cb T target.length ct mv O out.length co own) (hT:Sl w T (bv target)) (hO:Sl w O (bv out)) (hoff:Off O (fun b=>b ≠ p)) (hco:out.length ≤ co) (ht:target.length ≤ 1048576) (hct:target.length ≤ ct) (hol:out.length ≤ 100000000000) (h2:at_ ≤ target.length) :
  Calls Try.prog 69 #[.pointer (some ⟨p,0,none⟩),.int .i64 v] w (FlushTo w p A nb cb T target.length ct mv (flushF target out own at_) at_):=by
 subst hv
 unfold flushF
 split
 ·exact flush_some w p A nb cb T ct target mv O co out own at_ h hT hO ht hct hol ‹_› h2
 ·exact flush_none w p A nb cb T target.length ct mv O co out own at_ h hO hoff hco (by omega)
@[go_sem] theorem mkMap (t:TypeId) (w:World):(Instr.makeMap t none).run Try.prog w = .ok (.map (some w.heap.size)) (w.alloc (.map #[] 0)):=rfl
theorem enum_nil (w:World) (n:Nat) (hn:n ≤ 4611686018427387904) (told:List UInt8) (ht:told = numB n):Calls Try.prog 23 #[.slice none 0 0,.int .i64 n] w (NewBytes w told):=by
 subst ht
 exact enum_n w none 0 [] 0 rfl (Sl.nil _ _) (by decide) n hn
theorem enum_to (w:World) (A:Option Addr) (c:Nat) (l:List UInt8) (k:Nat) (hk:l.length = k) (hs:Sl w A (bv l)) (hl:l.length ≤ 140737488355000) (n:Nat) (hn:n ≤ 4611686018427387904) (v:Int) (hv:v = (n:Int)) (l2:List UInt8) (h2:l2 = l ++ numB n) :
  Calls Try.prog 23 #[.slice A k c,.int .i64 v] w (NewBytes w l2):=by subst h2;exact enum_v w A c l k hk hs hl n hn v hv
def Mk1 (w:World) (p r:Nat) (A:Option Addr) (cb:Nat) (base:List UInt8) (T:Option Addr) (nt ct:Nat) (O:Option Addr) (co:Nat) (D:Option Addr) (cd:Nat) (told:List UInt8) (gk:Nat) (iv_:Value) (wr:World):Prop :=
 ∃ n:Nat,iv_ = .int .i64 ((4 * n:Nat):Int) ∧ (n = 0 ∨ 4 * (n - 1) + 8 ≤ base.length) ∧ base.length + 4 - 4 * n = gk ∧ Plc w wr r (plcN base n) ∧
  MkB wr p A base.length cb T nt ct (.map (some r)) O told.length co 0 ∧ OwnBt w wr O co told ∧ OwnBt w wr D cd told
def Mk2 (w:World) (p r:Nat) (A:Option Addr) (cb:Nat) (base:List UInt8) (T:Option Addr) (ct:Nat) (target:List UInt8) (g:SKey → List Nat) (D:Option Addr) (cd:Nat) (told:List UInt8) (R:List UInt8 × Nat) (gk:Nat) (av:Value) (wr:World):Prop :=
 ∃ (at_ own f:Nat) (out:List UInt8) (O:Option Addr) (co:Nat),av = .int .i64 (at_:Int) ∧ at_ ≤ target.length ∧ target.length - at_ = gk ∧ own ≤ at_ ∧ target.length - at_ ≤ f ∧ out.length + (at_ - own) ≤ 9 + 28 * at_ ∧
  Plc w wr r g ∧ MkB wr p A base.length cb T target.length ct (.map (some r)) O out.length co own ∧ out.length ≤ co ∧ Sl wr O (bv out) ∧ Off O (fun b=>b ≠ p) ∧ Sl wr D (bv told) ∧ Hid (R = mkLd base target g f at_ own out)
theorem mkLd_end (base target:List UInt8) (g:SKey → List Nat) (f at_ own:Nat) (out:List UInt8) (h:¬ at_ < target.length):mkLd base target g f at_ own out = (out,own):=by
 cases f with
 | zero=>rfl
 | succ f=>unfold mkLd;rw [if_neg h]
theorem mkLd_skip (base target:List UInt8) (g:SKey → List Nat) (f at_ own:Nat) (out:List UInt8) (h:at_ < target.length) (h0:(lg base target g at_).2 = 0):mkLd base target g (f + 1) at_ own out = mkLd base target g f (at_ + 1) own out:=by
 rw [mkLd,if_pos h,if_pos h0]
theorem mkLd_copy (base target:List UInt8) (g:SKey → List Nat) (f at_ own:Nat) (out:List UInt8) (h:at_ < target.length) (q n:Nat) (hl:lg base target g at_ = (q,n)) (h0:n ≠ 0):mkLd base target g (f + 1) at_ own out = mkLd base target g f (at_ + n) (at_ + n) (flushF target out own at_ ++ numB (2 * n + 1) ++ numB q):=by
 rw [mkLd,if_pos h,hl,if_neg h0]
theorem flushF_len (target out:List UInt8) (own at_:Nat) (h:at_ ≤ target.length) (ht:target.length ≤ 1048576):(flushF target out own at_).length ≤ out.length + 9 + (at_ - own):=by
 unfold flushF
 split
 ·have:=numB_length (2 * (at_ - own)) (by omega)
  simp;omega
 ·omega
theorem longest_eq (w0 w:World) (p:Nat) (A:Option Addr) (cb:Nat) (base:List UInt8) (T:Option Addr) (ct:Nat) (target:List UInt8) (r:Nat) (O:Option Addr) (no co own at_:Nat) (g:SKey → List Nat)
  (h:MkB w p A base.length cb T target.length ct (.map (some r)) O no co own) (hA:Sl w A (bv base)) (hT:Sl w T (bv target)) (hP:Plc w0 w r g) (hb:base.length ≤ 140737488351232) (ht:target.length ≤ 1048576) (hct:target.length ≤ ct)
  (hg:∀ k,(g k).length ≤ 4 ∧ ∀ x ∈ g k,x ≤ 140737488351232) (hat:at_ ≤ target.length) (s:Nat × Nat) (hs:lg base target g at_ = s) :
  Calls Try.prog 68 #[.pointer (some ⟨p,0,none⟩),.int .i64 at_] w (LgTo w s):=by
 subst hs
 exact longest_any w0 w p A cb base T ct target r O no co own at_ g h hA hT hP hb ht hct hg hat
theorem own_capB {w0 w:World} {A:Option Addr} {c:Nat} {l:List UInt8} (h:OwnBt w0 w A c l):l.length ≤ c:=by
 obtain ⟨_,_,e,hc,_⟩:=own_form h
 injection e with _ _ e3
 subst e3
 exact hc
theorem mkB_noByte (A:Option Addr) (nb cb:Nat) (T:Option Addr) (nt ct:Nat) (mv:Value) (hm:∀ n,mv ≠ .int .u8 n) (O:Option Addr) (no co:Nat) (own:Nat):∀ (j:Nat) (n:Int),([.slice A nb cb,.slice T nt ct,mv,.slice O no co,.int .i64 own]:List Value)[j]? ≠ some (.int .u8 n):=by
 intro j n h
 rcases j with _ | _ | _ | _ | _ | j <;> simp at h
 exact hm n h
theorem flush_to (w:World) (p:Nat) (A:Option Addr) (nb cb:Nat) (T:Option Addr) (ct:Nat) (target:List UInt8) (mv:Value) (O:Option Addr) (co:Nat) (out:List UInt8) (own at_:Nat) (v:Int) (hv:v = (at_:Int))
  (h:MkB w p A nb cb T target.length ct mv O out.length co own) (hT:Sl w T (bv target)) (hO:Sl w O (bv out)) (hoff:Off O (fun b=>b ≠ p)) (hco:out.length ≤ co) (ht:target.length ≤ 1048576) (hct:target.length ≤ ct) (hol:out.length ≤ 100000000000) (h2:at_ ≤ target.length)
  (o1:List UInt8) (ho:o1 = flushF target out own at_) :
  Calls Try.prog 69 #[.pointer (some ⟨p,0,none⟩),.int .i64 v] w (FlushTo w p A nb cb T target.length ct mv o1 at_):=by
 subst ho
 exact flush_any w p A nb cb T ct target mv O co out own at_ v hv h hT hO hoff hco ht hct hol h2
theorem make_long (w:World) (A T:Option Addr) (cb ct:Nat) (base target:List UInt8) (h1:1048576 < target.length) :
  Calls Try.prog 46 #[.slice A base.length cb,.slice T target.length ct] w (MakeTo w (makeD base target)):=by
 unfold makeD
 rw [if_pos h1]
 go_enter Try.func46,Try.ntmps46
 go_wp2
 go_ret2
 exact ⟨none,0,rfl,Nat.le_refl _,Sl.nil _ _,Fr.refl _ _⟩
theorem make_none (w:World) (A T:Option Addr) (cb ct:Nat) (base:List UInt8) :
  Calls Try.prog 46 #[.slice A base.length cb,.slice T 0 ct] w (MakeTo w (makeD base [])):=by
 have e:makeD base [] = .ok (numB 0):=rfl
 rw [e]
 clear e
 go_enter Try.func46,Try.ntmps46
 go_wp2_with (go_at_call 23;refine (enum_nil _ 0 (by decide) (numB 0) rfl).mono ?_;rintro e w1 ⟨A1,k1,rfl,ho1,hf1⟩)
 go_ret2
 obtain ⟨_,_,e,hc,_⟩:=own_form ho1
 injection e with _ _ e3
 subst e3
 exact ⟨A1,k1,rfl,hc,Sl.own ho1,hf1⟩
set_option maxRecDepth 100000 in
set_option maxHeartbeats 1000000 in
theorem make_whole (w:World) (A T:Option Addr) (cb ct:Nat) (base target:List UInt8) (hA:Sl w A (bv base)) (hT:Sl w T (bv target)) (hcb:base.length ≤ cb) (hct:target.length ≤ ct) (hAn:A = none → cb = 0)
  (hb:base.length ≤ 1000000000) (m:Int) (hm:w.cell? ⟨0,0,none⟩ = some (.int .i64 m)) (hw0:0 < w.heap.size) (h1:target.length ≤ 1048576) (hpos:0 < target.length) (i:Nat) (hi:Lib.index base target = i) (hil:i ≤ base.length) :
  Calls Try.prog 46 #[.slice A base.length cb,.slice T target.length ct] w (MakeTo w (.ok (numB target.length ++ numB (2 * target.length + 1) ++ numB i))):=by
 have H2:Hid (target ≠ []):=(fun h=>by rw [h] at hpos;simp at hpos)
 have HI:=Lib.hid hi
 have hge:(0:Int) ≤ (i:Int):=by omega
 clear hi
 obtain ⟨t1,ht1⟩:∃ t,t = numB target.length:=⟨_,rfl⟩
 obtain ⟨t2,ht2⟩:∃ t,t = t1 ++ numB (2 * target.length + 1):=⟨_,rfl⟩
 obtain ⟨t3,ht3⟩:∃ t,t = t2 ++ numB i:=⟨_,rfl⟩
 have l1:t1.length ≤ 9:=by rw [ht1];exact numB_length _ (by omega)
 have l2:t2.length ≤ 18:=by rw [ht2,List.length_append];have:=numB_length (2 * target.length + 1) (by omega);omega
 rw [← ht1,← ht2,← ht3]
 have e0:((target.length:Int) == 0) = false:=by rw [beq_eq_false_iff_ne];omega
 have H1:=Lib.hid ht1
 have H3:=Lib.hid ht2
 have H4:=Lib.hid ht3
 clear ht1 ht2 ht3
 have c1:True:=trivial
 have c2:True:=trivial
 go_enter Try.func46,Try.ntmps46
 go_wp2_with (first
  | (go_at_call 23;have _t:=c1;clear c1 _t;refine (enum_nil _ target.length (by omega) t1 H1.out).mono ?_;rintro e w1 ⟨A1,k1,rfl,ho1,hf1⟩)
  | (go_at_call 67;refine (index_any _ A cb base T ct target m (hA.fr0 hf1) (hT.fr0 hf1) H2.out hcb hAn (by omega) (by omega) ((World.cell?_of_block (a:=⟨0,0,none⟩) (hf1.block 0 hw0 (by simp [noB]))).trans hm) _ _ rfl rfl).mono ?_;rw [HI.out];rintro e w2 ⟨rfl,hf2⟩)
  | (go_at_call 23;have _t:=c2;clear c2 _t;refine (enum_to _ A1 _ t1 _ rfl ((Sl.own ho1).fr0 hf2) (by omega) (2 * target.length + 1) (by omega) _ (by go_num) t2 H3.out).mono ?_;rintro e w3 ⟨A3,k3,rfl,ho3,hf3⟩)
  | (go_at_call 23;refine (enum_to _ A3 _ t2 _ rfl (Sl.own ho3) (by omega) i (by omega) _ rfl t3 H4.out).mono ?_;rintro e w4 ⟨A4,k4,rfl,ho4,hf4⟩))
 go_ret2
 obtain ⟨_,_,e,hc,_⟩:=own_form ho4
 injection e with _ _ e3
 subst e3
 exact ⟨A4,k4,rfl,hc,Sl.own ho4,((hf1.step0 hf2).step0 hf3).step0 hf4⟩
end Go.Proofs.Ytahllkifmmjbdaa
namespace Go.Proofs.Ytahllkifmmjbdaa
open Go.RowKit Go.Maps Go.Sort
set_option maxRecDepth 100000
def StS (w:World) (r:Nat) (L:List (List UInt8)):Prop:=MapF encSt w r (fun k=>if k.1 ∈ L then some (.bool true) else none)
theorem StS.new (w:World):StS (w.alloc (.map #[] 0)) w.heap.size []:=by
 have h:=MapF.new encSt w
 unfold StS
 simpa using h
theorem zeroBo (w:World):(zeroValue 4).run Try.prog w = .ok (.bool false) w:=Try.zeroValue4 w
theorem StS.look {w:World} {r:Nat} {L:List (List UInt8)} (h:StS w r L) (x:List UInt8) (hx:x.length ≤ maxLen):(Instr.lookup 85 (.map (some r)) (.string (str x)) false).run Try.prog w = .ok (.bool (decide (x ∈ L))) w:=by
 have:=MapF.look keyS h Try.underlying85 (zeroBo w) (⟨x,hx⟩:SKey)
 refine this.trans ?_
 by_cases hm:x ∈ L <;> simp [hm]
theorem StS.put {w:World} {r:Nat} {L:List (List UInt8)} (h:StS w r L) (x:List UInt8) (hx:x.length ≤ maxLen) :
  ∃ w2,(Instr.mapUpdate 85 (.map (some r)) (.string (str x)) (.bool true)).run Try.prog w = .ok () w2 ∧ StS w2 r (L ++ [x]) ∧ Fr (oneB r) w w2 ∧ w2.heap.size = w.heap.size:=by
 classical
 obtain ⟨w2,h1,h2,h3,h4⟩:=MapF.put keyS h Try.underlying85 (⟨x,hx⟩:SKey) (.bool true)
 refine ⟨w2,h1,?_,h3,h4⟩
 unfold StS
 have e:putF (fun k:SKey=>if k.1 ∈ L then some (Value.bool true) else none) ⟨x,hx⟩ (.bool true) = (fun k:SKey=>if k.1 ∈ L ++ [x] then some (.bool true) else none):=by
  funext k
  unfold putF
  by_cases hk:k = ⟨x,hx⟩
  ·subst hk;exact (if_pos rfl).trans (if_pos (by simp)).symm
  ·have hk':k.1 ≠ x:=fun e=>hk (Subtype.ext e)
   rw [if_neg hk]
   simp [hk']
 rw [← e]
 exact h2
theorem onceF_drop (xs out:List (List UInt8)) (i:Nat) (h:i < xs.length):onceF (xs.drop i) out = onceF (xs.drop (i + 1)) (if xs[i] ∈ out then out else out ++ [xs[i]]):=by
 rw [List.drop_eq_getElem_cons h];rfl
theorem onceF_len:∀ (xs out:List (List UInt8)),(onceF xs out).length ≤ xs.length + out.length
 | [],out=>by simp [onceF]
 | b :: l,out=>by
  have:=onceF_len l (if b ∈ out then out else out ++ [b])
  unfold onceF
  split at this
  ·rename_i h;rw [if_pos h];simp;omega
  ·rename_i h;rw [if_neg h];simp at this ⊢;omega
theorem onceF_mem:∀ (xs out:List (List UInt8)) (x:List UInt8),x ∈ onceF xs out ↔ x ∈ xs ∨ x ∈ out
 | [],out,x=>by simp [onceF]
 | b :: l,out,x=>by
  unfold onceF
  rw [onceF_mem l _ x]
  split
  ·rename_i h
   simp only [List.mem_cons]
   constructor
   ·rintro (h1 | h1)
    ·exact .inl (.inr h1)
    ·exact .inr h1
   ·rintro ((h1 | h1) | h1)
    ·exact .inr (h1 ▸ h)
    ·exact .inl h1
    ·exact .inr h1
  ·simp only [List.mem_append,List.mem_singleton,List.mem_cons]
   constructor
   ·rintro (h1 | h1 | h1 | h1)
    ·exact .inl (.inr h1)
    ·exact .inr h1
    ·exact .inl (.inl h1)
    ·cases h1
   ·rintro ((h1 | h1) | h1)
    ·exact .inr (.inr (.inl h1))
    ·exact .inl h1
    ·exact .inr (.inl h1)
def OnTo (w:World) (rs:List SlW) (xs:List (List UInt8)) (e:Ending) (w':World):Prop:=∃ (A':Option Addr) (c':Nat) (rs':List SlW),e = .returned (.slice A' rs'.length c') ∧ OwnC codB w w' A' c' rs' ∧ BsIn w' rs' (onceF xs []) ∧ Fr noB w w' ∧ ∀ r ∈ rs',r ∈ rs
set_option maxHeartbeats 4000000 in
theorem once_any (w:World) (A:Option Addr) (n c:Nat) (rs:List SlW) (xs:List (List UInt8)) (hn:rs.length = n) (hs:Sl w A (codB.row rs)) (hb:rs.length ≤ 1000000000000) (hX:BsIn w rs xs):Calls Try.prog 19 #[.slice A n c] w (OnTo w rs xs):=by
 subst hn
 have HS:=Lib.hid hs
 have HB:=Lib.hid hb
 have HX:=Lib.hid hX
 have HLX:=Lib.hid hX.len
 obtain ⟨M,hM⟩:∃ M,M = w.heap.size:=⟨_,rfl⟩
 have HM:=Lib.hid hM
 have S0:=Lib.hid (show StS (w.alloc (.map #[] 0)) M [] by rw [hM];exact StS.new w)
 have F0:=Lib.hid (show Fr noB w (w.alloc (.map #[] 0)) from (Fr.refl noB w).alloc _)
 clear hs hb hX
 go_enter Try.func19,Try.ntmps19
 go_upto_region 2 with fail
 rw [← hM]
 clear hM
 generalize w.alloc (.map #[] 0) = w1 at S0 F0 ⊢
 have H0:=Lib.hid (show ∃ (i:Nat) (A1:Option Addr) (c1:Nat) (l:List SlW) (out:List (List UInt8)),(Value.slice none 0 0) = .slice A1 l.length c1 ∧ (Value.int .i64 0) = .int .i64 (i:Int) ∧ rs.length - 0 = rs.length - i ∧ i ≤ rs.length ∧ OwnC codB w w1 A1 c1 l ∧ BsIn w l out ∧ StS w1 M out ∧ onceF xs [] = onceF (xs.drop i) out ∧ Fr noB w w1 ∧ out.length ≤ i ∧ (∀ r ∈ l,r ∈ rs) from ⟨0,none,0,[],[],rfl,rfl,rfl,Nat.zero_le _,World.ownsRow_nil _ _ _ _,BsIn.nil _,S0.out,rfl,F0.out,Nat.le_refl _,fun r h=>by cases h⟩)
 go_wp2_with fail
 go_loopg [4,10] (rs.length - 0) (fun gk ov iv wr=>∃ (i:Nat) (A1:Option Addr) (c1:Nat) (l:List SlW) (out:List (List UInt8)),ov = .slice A1 l.length c1 ∧ iv = .int .i64 (i:Int) ∧ gk = rs.length - i ∧ i ≤ rs.length ∧ OwnC codB w wr A1 c1 l ∧ BsIn w l out ∧ StS wr M out ∧ onceF xs [] = onceF (xs.drop i) out ∧ Fr noB w wr ∧ out.length ≤ i ∧ (∀ r ∈ l,r ∈ rs))
 case atStart=>exact H0.out
 case round =>
  clear H0 S0
  obtain ⟨i,A1,c1,l,out,rfl,rfl,rfl,hi,ho,hbs,hst,hex,hf,hoi,hsub⟩:=hrel
  have HSUB:=Lib.hid hsub
  clear hsub
  have HOI:=Lib.hid hoi
  have HO:=Lib.hid ho
  have HF:=Lib.hid hf
  have HBS:=Lib.hid hbs
  have HST:=Lib.hid hst
  have HEX:=Lib.hid hex
  clear ho hf hbs hst hex hoi
  by_cases hlt:i < rs.length
  ·have i1:(i:Int) < (rs.length:Int):=by omega
   have i0:(0:Int) ≤ (i:Int):=by omega
   obtain ⟨g,off,rfl,hg,hc⟩:=cellB (HS.out.fr0 HF.out) (by omega)
   have hlx:i < xs.length:=by rw [← HLX.out];exact hlt
   have hin:=HX.out.at_ i hlt hlx
   have e1:=hc i hlt
   have HNX:=Lib.hid (onceF_drop xs out i hlx)
   have HKL:=Lib.hid hlt
   have hrm:=List.getElem_mem hlt
   generalize rs[i] = r at e1 hin hrm
   have HRM:=Lib.hid hrm
   clear hrm
   generalize xs[i] = x at hin HNX
   have HIN:=Lib.hid hin
   obtain ⟨rA,rn,rc⟩:=r
   have hcv:=conv_str wr rA rn rc x hin.len (hin.sl.fr0 HF.out)
   have hxm:x.length ≤ maxLen:=by have:=hin.bd;unfold maxLen;omega
   have hlk:=HST.out.look x hxm
   have HXM:=Lib.hid hxm
   simp only at e1
   clear hin hc hg hlt hi hlx hxm
   have wk:wrap64 ((i:Int) + 1) = (i:Int) + 1:=IntWalk.wrap64_in _ (by have:=HKL.out;have:=HB.out;omega)
   by_cases hm:x ∈ out
   ·have HN2:=Lib.hid (HNX.out.trans (by rw [if_pos hm]))
    rw [show decide (x ∈ out) = true by simp [hm]] at hlk
    clear hm
    go_wp2_with fail
    go_roundg (rs.length - (i + 1))
    case measure=>have:=HKL.out;omega
    case rel=>exact ⟨i + 1,A1,c1,l,out,rfl,by first | exact congrArg (Value.int .i64) wk | simp,rfl,by have:=HKL.out;omega,HO.out,HBS.out,HST.out,HEX.out.trans HN2.out,HF.out,by have:=HOI.out;omega,HSUB.out⟩
   ·have HN2:=Lib.hid (HNX.out.trans (by rw [if_neg hm]))
    rw [show decide (x ∈ out) = false by simp [hm]] at hlk
    obtain ⟨w2,hput,hs2,hf2,hz2⟩:=HST.out.put x HXM.out
    have HS2:=Lib.hid hs2
    have HF2:=Lib.hid hf2
    have hMw:w.heap.size ≤ M:=by have:=HM.out;omega
    clear hm hs2 hf2 hz2
    go_upto_region 8 with fail
    have HW2:=Lib.hid (HF.out.step1 HF2.out hMw)
    have fn:Fr noB w2 (w2.alloc (.cells #[.slice rA rn rc] 25)):=(Fr.refl noB w2).alloc _
    have sl:Sl (w2.alloc (.cells #[.slice rA rn rc] 25)) (some ⟨w2.heap.size,0,none⟩) (codB.row [⟨rA,rn,rc⟩]):=Sl.new w2 25 [.slice rA rn rc]
    have ho2:OwnC codB w (w2.alloc (.cells #[.slice rA rn rc] 25)) A1 c1 l:=own_fr (own_fr HO.out HF2.out (fun b hb e=>mapF_ne_own HST.out HO.out b hb e)) fn (fun _ _=>by simp [noB])
    have sz:=(HW2.out.step0 fn).size
    have HFN:=Lib.hid fn
    have HLI:=Lib.hid (show l.length ≤ i from by have:=HBS.out.len;have:=HOI.out;omega)
    clear fn hcv hlk hput
    go_wp2_with (at_builtin;refine wpList_appC' etB w _ rfl _ _ rfl A1 l.length c1 l rfl rfl ho2 (some ⟨w2.heap.size,0,none⟩) 1 1 [⟨rA,rn,rc⟩] rfl sl rfl (by have:=HLI.out;have:=HKL.out;have:=HB.out;simp;omega) sz ?_;intro A8 c8 w8 hc8 hmx8 ho8 hg8 hA8;obtain ⟨l8,hl8⟩:∃ t,t = l ++ [(⟨rA,rn,rc⟩:SlW)]:=⟨_,rfl⟩;rw [← hl8] at ho8 ⊢;have HL8:=Lib.hid hl8;have HF8:=Lib.hid (Fr.own' (HW2.out.step0 HFN.out) ho2 hg8);have HO8:=Lib.hid ho8;have HS8:=Lib.hid (MapF.fr (MapF.fr HS2.out HFN.out (by simp [noB])) (Fr.ofGrown (M:=fun b=>A1.map (·.block) = some b) hg8 (fun _ h=>h)) (fun e=>mapF_ne_own (MapF.fr HS2.out HFN.out (by simp [noB])) ho2 _ (by rw [ownBlock_slice];exact e) rfl));clear hl8 hc8 hmx8 hg8 hA8 ho2 ho8 sl)
    go_roundg (rs.length - (i + 1))
    case measure=>have:=HKL.out;omega
    case rel=>exact ⟨i + 1,A8,c8,l8,out ++ [x],rfl,by first | exact congrArg (Value.int .i64) wk | simp,rfl,by have:=HKL.out;omega,HO8.out,by rw [HL8.out];exact HBS.out.snoc HIN.out,HS8.out,HEX.out.trans HN2.out,HF8.out,by have:=HOI.out;simp;omega,fun r h=>by rw [HL8.out] at h;rcases List.mem_append.1 h with h | h;exact HSUB.out r h;rw [List.mem_singleton.1 h];exact HRM.out⟩
  ·have i1:¬ (i:Int) < (rs.length:Int):=by omega
   have HE:=Lib.hid (show xs.drop i = [] from List.drop_eq_nil_of_le (by rw [← HLX.out];omega))
   clear hlt hi
   go_wp2_with fail
   go_ret
   exact ⟨A1,c1,l,rfl,HO.out,by rw [HEX.out,HE.out];exact HBS.out.fr0 HF.out,HF.out,HSUB.out⟩
end Go.Proofs.Ytahllkifmmjbdaa
