/- Two rows of bytes of a call's own, apart from each other; append laws with lengths as variables. bytes.Index as a contract in my words. Contracts: the maker's flush. -/
import Derived.Test.YtahllkifmmjbdaaEncKp
import Derived.Test.YtahllkifmmjbdaaShelfKp
import Derived.Lib.IndexMore
import Derived.Test.YtahllkifmmjbdaaNumWKp
import Derived.Test.YtahllkifmmjbdaaRegMKp
import Derived.Deep.RegionHeld3
set_option linter.unusedVariables false
set_option linter.unusedSimpArgs false
namespace Go.Proofs.Ytahllkifmmjbdaa
open Go.RowKit
abbrev OwnBt (w0 w:World) (A:Option Addr) (c:Nat) (l:List UInt8):Prop:=w.ownsRow w0.heap.size 5 1 (.slice A l.length c) l.length (bv l)
theorem ownBlock_slice (A:Option Addr) (n c:Nat):(Value.slice A n c).ownBlock = A.map (·.block):=by cases A <;> rfl
theorem wpList_appC (w0 w:World) {ops:Array Oper} {rest:List Oper} {o:Oper} {a:Act} {Q:Exit → Act → World → Prop} (hgd:o.guard = none) (s x:Operand)
  (ho:o.op = .call { callee:=.builtin .append,args:=#[s,x],argTypes:=#[25,25] })
  (As:Option Addr) (ns cs:Nat) (lo:List UInt8) (hs:a.eval s = .slice As ns cs) (hns:lo.length = ns) (hown:OwnBt w0 w As cs lo)
  (A:Option Addr) (m c:Nat) (news:List UInt8) (hx:a.eval x = .slice A m c) (hr:Sl w A (bv news)) (hl:news.length = m)
  (hbytes:lo.length + news.length ≤ 140737488355328) (hbase:w0.heap.size ≤ w.heap.size)
  (h:∀ A' c' w',(lo ++ news).length ≤ c' → c' ≤ maxLen → OwnBt w0 w' A' c' (lo ++ news) → w.grownBy w' (As.map (·.block)) →
   (A'.map (·.block) = As.map (·.block) ∨ A'.map (·.block) = some w.heap.size) → wpList Try.prog ops Q rest (a.put o.dst (.slice A' (lo ++ news).length c')) w'):wpList Try.prog ops Q (o :: rest) a w:=by
 subst hns
 refine wpList_appB w etBytes hgd s x ho w0.heap.size _ _ lo hs hown A m c news hx hr hl hbytes hbase ?_
 intro A' c' w' h1 h2 h3 h4 h5
 rw [ownBlock_slice] at h4 h5
 exact h A' c' w' h1 h2 h3 h4 h5
structure Two (w0 w:World) (As:Option Addr) (cs:Nat) (ls:List UInt8) (At:Option Addr) (ct:Nat) (lt:List UInt8):Prop where
 os:OwnBt w0 w As cs ls
 ot:OwnBt w0 w At ct lt
 ap:∀ g,As.map (·.block) = some g → At.map (·.block) ≠ some g
 fr:Fr noB w0 w
section
variable {w0 w w':World} {As At:Option Addr} {cs ct:Nat} {ls lt:List UInt8}
theorem Two.symm (h:Two w0 w As cs ls At ct lt):Two w0 w At ct lt As cs ls:=⟨h.ot,h.os,fun g h1 h2=>h.ap g h2 h1,h.fr⟩
theorem Two.step0 (h:Two w0 w As cs ls At ct lt) (f:Fr noB w w'):Two w0 w' As cs ls At ct lt :=
 ⟨own_fr h.os f (fun _ _=>by simp [noB]),own_fr h.ot f (fun _ _=>by simp [noB]),h.ap,h.fr.step0 f⟩
theorem Two.size (h:Two w0 w As cs ls At ct lt):w0.heap.size ≤ w.heap.size:=h.fr.size
end
theorem own_grow {w0 w w':World} {A:Option Addr} {c:Nat} {l:List UInt8} (ho:OwnBt w0 w A c l) (hf:Fr noB w0 w) (hg:w.grownBy w' (A.map (·.block))):Fr noB w0 w' :=
 hf.stepG hg (fun g h=>(ho.lt g (by rw [ownBlock_slice];exact h)).1)
end Go.Proofs.Ytahllkifmmjbdaa
namespace Go.Proofs.Ytahllkifmmjbdaa
open Go.RowKit
def natI (l:List UInt8):List Int:=l.map fun b=>(b.toNat:Int)
theorem natI_bytes (l:List UInt8):Lib.bytesOf (natI l) = l:=by
 unfold Lib.bytesOf natI
 rw [List.map_map]
 conv=>rhs;rw [← List.map_id l]
 refine List.map_congr_left (fun b _=>?_)
 simp
theorem natI_rng (l:List UInt8):∀ x ∈ natI l,0 ≤ x ∧ x < 256:=by
 intro x hx
 unfold natI at hx
 obtain ⟨b,_,rfl⟩:=List.mem_map.1 hx
 have:=b.toNat_lt
 omega
theorem Sl.natI {w:World} {a:Addr} {l:List UInt8} (h:Sl w (some a) (bv l)):∀ i,i < l.length → w.cell? (a.add i) = some (.int .u8 ((natI l).getD i 0)):=by
 intro i hi
 obtain ⟨g,off,e,_,hc⟩:=h (bv_ne (by intro h0;subst h0;simp at hi))
 injection e with e
 subst e
 have e2:(⟨g,off,none⟩:Addr).add i = ⟨g,off + i,none⟩:=by unfold Addr.add;split <;> simp_all
 rw [e2]
 refine hc i _ ?_
 rw [bv_get l i hi]
 simp [Go.Proofs.Ytahllkifmmjbdaa.natI,List.getD,hi]
theorem index_any (w:World) (A:Option Addr) (c:Nat) (l:List UInt8) (B:Option Addr) (d:Nat) (t:List UInt8) (m:Int) (hA:Sl w A (bv l)) (hB:Sl w B (bv t)) (ht:t ≠ []) (hc:l.length ≤ c) (hn:A = none → c = 0)
  (hl:l.length < 4294967281) (htl:t.length ≤ 9223372036854775807) (hm:w.cell? ⟨0,0,none⟩ = some (.int .i64 m)) (n k:Nat) (hn':l.length = n) (hk':t.length = k) :
  Calls Try.prog 67 #[.slice A n c,.slice B k d] w fun e w'=>e = .returned (.int .i64 (Lib.index l t)) ∧ Fr noB w w':=by
 subst hn' hk'
 obtain ⟨g2,o2,rfl,_,hc2⟩:=hB (bv_ne ht)
 cases A with
 | none =>
  have h0:c = 0:=hn rfl
  subst h0
  have hl0:l = []:=List.eq_nil_of_length_eq_zero (by omega)
  subst hl0
  refine (Try.bytes_Index_nil (some ⟨g2,o2,none⟩) t.length d w htl (fun h1=>⟨g2,o2,_,rfl,hc2 0 _ (bv_get t 0 (by omega))⟩)).mono ?_
  rintro e w' ⟨rfl,rfl⟩
  refine ⟨?_,Fr.refl _ _⟩
  cases t with
  | nil=>exact absurd rfl ht
  | cons a t=>simp [Lib.index]
 | some a =>
  refine (Try.bytes_Index_at a ⟨g2,o2,none⟩ l.length c t.length d (natI l) (natI t) m w (by simp [natI]) (by simp [natI]) (natI_rng l) (natI_rng t) hA.natI hB.natI hc hl htl hm).mono ?_
  rintro e w' ⟨rfl,q,rfl⟩
  rw [natI_bytes,natI_bytes]
  exact ⟨rfl,(Fr.refl noB w).drewN q⟩
theorem index_two (l t:List UInt8) (ht:t ≠ []):Lib.index l t = -1 ∨ ∃ i:Nat,Lib.index l t = i ∧ i + t.length ≤ l.length ∧ (l.drop i).take t.length = t:=by
 rcases Lib.index_spec l t with ⟨h,_⟩ | ⟨i,h1,h2,h3,_⟩
 ·exact .inl h
 ·refine .inr ⟨i,h1,?_,?_⟩
  ·have:=Lib.index_room l t (by omega)
   rw [h1] at this
   omega
  ·unfold Lib.occAt at h3
   rw [List.isPrefixOf_iff_prefix] at h3
   exact (List.prefix_iff_eq_take.1 h3).symm
theorem step_appCt (w0 w:World) {ops:Array Oper} {o:Oper} {a:Act} {K:Act → World → Prop} {Q:Exit → Act → World → Prop} {E:Prop} (hgd:o.guard = none) (s x:Operand)
  (ho:o.op = .call { callee:=.builtin .append,args:=#[s,x],argTypes:=#[25,25] })
  (As:Option Addr) (ns cs:Nat) (lo:List UInt8) (hs:a.eval s = .slice As ns cs) (hns:lo.length = ns) (hown:OwnBt w0 w As cs lo)
  (A:Option Addr) (m c:Nat) (news:List UInt8) (hx:a.eval x = .slice A m c) (hr:Sl w A (bv news)) (hl:news.length = m)
  (hbytes:lo.length + news.length ≤ 140737488355328) (hbase:w0.heap.size ≤ w.heap.size)
  (h:∀ A' c' w',(lo ++ news).length ≤ c' → c' ≤ maxLen → OwnBt w0 w' A' c' (lo ++ news) → w.grownBy w' (As.map (·.block)) →
   (A'.map (·.block) = As.map (·.block) ∨ A'.map (·.block) = some w.heap.size) → K (a.put o.dst (.slice A' (lo ++ news).length c')) w') :
  if Region.wanted o (yielded ops a.tmps) = true then Oper.wp Try.prog o a w K Q else E:=by
 have hw:Region.wanted o (yielded ops a.tmps) = true:=by simp [Region.wanted,hgd]
 rw [if_pos hw]
 subst hns
 refine wp_app w etBytes s x ho w0.heap.size _ lo.length (bv lo) hs hown A m c (bv news) hx hr (by simp [hl]) (bv_one _) (by rw [← hl];omega) hbase ?_
 intro v' w' h1 h2 h3
 rw [← bv_append] at h1
 have h1':=own_bv h1
 obtain ⟨A',c',rfl,hc1,hc2⟩:=own_form h1'
 rw [ownBlock_slice,ownBlock_slice] at h3
 rw [ownBlock_slice] at h2
 have e:lo.length + m = (lo ++ news).length:=by simp [hl]
 exact h A' c' w' hc1 hc2 h1' h2 h3
theorem enum_v (w:World) (A:Option Addr) (c:Nat) (l:List UInt8) (k:Nat) (hk:l.length = k) (hs:Sl w A (bv l)) (hl:l.length ≤ 140737488355000) (n:Nat) (hn:n ≤ 4611686018427387904) (v:Int) (hv:v = (n:Int)) :
  Calls Try.prog 23 #[.slice A k c,.int .i64 v] w (NewBytes w (l ++ numB n)):=by subst hv;exact enum_n w A c l k hk hs hl n hn
theorem drewF (w:World):Fr noB w w.drew:=(Fr.refl noB w).drew
def MkB (w:World) (p:Nat) (A:Option Addr) (nb cb:Nat) (T:Option Addr) (nt ct:Nat) (mv:Value) (O:Option Addr) (no co:Nat) (own:Nat):Prop :=
 Blk w p 114 [.slice A nb cb,.slice T nt ct,mv,.slice O no co,.int .i64 own]
def FlushTo (w:World) (p:Nat) (A:Option Addr) (nb cb:Nat) (T:Option Addr) (nt ct:Nat) (mv:Value) (out:List UInt8) (own:Nat) (e:Ending) (w':World):Prop :=
 ∃ O co,e = .returned (.tuple #[]) ∧ MkB w' p A nb cb T nt ct mv O out.length co own ∧ out.length ≤ co ∧ Sl w' O (bv out) ∧ Off O (fun b=>b ≠ p) ∧ Fr (oneB p) w w'
set_option maxRecDepth 100000 in
set_option maxHeartbeats 2000000 in
theorem flush_some (w:World) (p:Nat) (A:Option Addr) (nb cb:Nat) (T:Option Addr) (ct:Nat) (target:List UInt8) (mv:Value) (O:Option Addr) (co:Nat) (out:List UInt8) (own at_:Nat)
  (h:MkB w p A nb cb T target.length ct mv O out.length co own) (hT:Sl w T (bv target)) (hO:Sl w O (bv out)) (ht:target.length ≤ 1048576) (hct:target.length ≤ ct) (hol:out.length ≤ 100000000000)
  (h1:own < at_) (h2:at_ ≤ target.length) :
  Calls Try.prog 69 #[.pointer (some ⟨p,0,none⟩),.int .i64 at_] w (FlushTo w p A nb cb T target.length ct mv (out ++ numB (2 * (at_ - own)) ++ (target.drop own).take (at_ - own)) at_):=by
 have hlt:p < w.heap.size:=Blk.lt h
 have c1:w.cell? ⟨p,1,none⟩ = some (.slice T target.length ct):=Blk.cell h 1
 have c3:w.cell? ⟨p,3,none⟩ = some (.slice O out.length co):=Blk.cell h 3
 have c4:w.cell? ⟨p,4,none⟩ = some (.int .i64 own):=Blk.cell h 4
 have f3:=Blk.frozen h 3
 have f4:=Blk.frozen h 4
 have hn:=numB_length (2 * (at_ - own)) (by omega)
 have hp1:IntKind.i64.wrap ((at_:Int) - own) = ((at_ - own:Nat):Int):=by rw [IntKind.wrap_i64];omega
 have hp2:IntKind.i64.wrap (2 * ((at_ - own:Nat):Int)) = ((2 * (at_ - own):Nat):Int):=by rw [IntKind.wrap_i64];omega
 have b1:(0:Int) ≤ own:=by omega
 have b2:(own:Int) ≤ at_:=by omega
 have b3:(at_:Int) ≤ ct:=by omega
 have HS:Sl w (cutA T ct own 1) (bv ((target.drop own).take (at_ - own))):=(hT.cutB (k:=own) hct).takeB
 go_enter Try.func69,Try.ntmps69
 go_wp2_with fail
 refine wp_region_N 24 (fun w'=>w'.cell? ⟨p,1,none⟩ = some (.slice T target.length ct) ∧ w'.cell? ⟨p,3,none⟩ = some (.slice O out.length co) ∧ w'.cell? ⟨p,4,none⟩ = some (.int .i64 own)) (by kernel_rfl) (by kernel_rfl) ⟨c1,c3,c4⟩ (fun hA hF=>?_)
 refine wpAnyN_take (i:=0) (v:=?_) hA rfl (by decide) (by kernel_rfl) (by kernel_rfl) (fun _ _ _ h=>h) (Or.inl ⟨by rfl,?_⟩) hF (fun hA=>?_)
 rotate_left
 ·intro wS hSw;(try dsimp only at hSw);obtain ⟨s1,s3,s4⟩:=hSw;(go_simp;try with_reducible rfl)
 try simp only [sA1,sA2,sA3,Act.put,sA4,sA5,sA6]
 refine wpAnyN_take (i:=1) (v:=?_) hA rfl (by decide) (by kernel_rfl) (by kernel_rfl) (fun _ _ _ h=>h) (Or.inl ⟨by rfl,?_⟩) hF (fun hA=>?_)
 rotate_left
 ·intro wS hSw;(try dsimp only at hSw);obtain ⟨s1,s3,s4⟩:=hSw;(go_simp;try with_reducible rfl)
 try simp only [sA1,sA2,sA3,Act.put,sA4,sA5,sA6]
 refine wpAnyN_take (i:=2) (v:=?_) hA rfl (by decide) (by kernel_rfl) (by kernel_rfl) (fun _ _ _ h=>h) (Or.inl ⟨by rfl,?_⟩) hF (fun hA=>?_)
 rotate_left
 ·intro wS hSw;(try dsimp only at hSw);obtain ⟨s1,s3,s4⟩:=hSw;(go_simp;try with_reducible rfl)
 try simp only [sA1,sA2,sA3,Act.put,sA4,sA5,sA6]
 refine wpAnyN_take (i:=3) (v:=?_) hA rfl (by decide) (by kernel_rfl) (by kernel_rfl) (fun _ _ _ h=>h) (Or.inl ⟨by rfl,?_⟩) hF (fun hA=>?_)
 rotate_left
 ·intro wS hSw;(try dsimp only at hSw);obtain ⟨s1,s3,s4⟩:=hSw;(go_simp;try with_reducible rfl)
 try simp only [sA1,sA2,sA3,Act.put,sA4,sA5,sA6]
 refine wpAnyN_take (i:=4) (v:=?_) hA rfl (by decide) (by kernel_rfl) (by kernel_rfl) (fun _ _ _ h=>h) (Or.inl ⟨by rfl,?_⟩) hF (fun hA=>?_)
 rotate_left
 ·intro wS hSw;(try dsimp only at hSw);obtain ⟨s1,s3,s4⟩:=hSw;(go_simp;try with_reducible rfl)
 try simp only [sA1,sA2,sA3,Act.put,sA4,sA5,sA6]
 refine wpAnyN_take (i:=5) (v:=?_) hA rfl (by decide) (by kernel_rfl) (by kernel_rfl) (fun _ _ _ h=>h) (Or.inl ⟨by rfl,?_⟩) hF (fun hA=>?_)
 rotate_left
 ·intro wS hSw;(try dsimp only at hSw);obtain ⟨s1,s3,s4⟩:=hSw;(go_simp;try with_reducible rfl)
 try simp only [sA1,sA2,sA3,Act.put,sA4,sA5,sA6]
 refine wpAnyN_take (i:=6) (v:=?_) hA rfl (by decide) (by kernel_rfl) (by kernel_rfl) (fun _ _ _ h=>h) (Or.inl ⟨by rfl,?_⟩) hF (fun hA=>?_)
 rotate_left
 ·intro wS hSw;(try dsimp only at hSw);obtain ⟨s1,s3,s4⟩:=hSw;(go_simp;try with_reducible rfl)
 try simp only [sA1,sA2,sA3,Act.put,sA4,sA5,sA6]
 refine wpAnyN_take (i:=7) (v:=?_) hA rfl (by decide) (by kernel_rfl) (by kernel_rfl) (fun _ _ _ h=>h) (Or.inl ⟨by rfl,?_⟩) hF (fun hA=>?_)
 rotate_left
 ·intro wS hSw;(try dsimp only at hSw);obtain ⟨s1,s3,s4⟩:=hSw;(go_simp;try with_reducible rfl)
 try simp only [sA1,sA2,sA3,Act.put,sA4,sA5,sA6]
 refine wpAnyN_take (i:=8) (v:=?_) hA rfl (by decide) (by kernel_rfl) (by kernel_rfl) (fun _ _ _ h=>h) (Or.inl ⟨by rfl,?_⟩) hF (fun hA=>?_)
 rotate_left
 ·intro wS hSw;(try dsimp only at hSw);obtain ⟨s1,s3,s4⟩:=hSw;(go_simp;try with_reducible rfl)
 try simp only [sA1,sA2,sA3,Act.put,sA4,sA5,sA6]
 refine wpAnyN_take (i:=9) (v:=?_) hA rfl (by decide) (by kernel_rfl) (by kernel_rfl) (fun _ _ _ h=>h) (Or.inl ⟨by rfl,?_⟩) hF (fun hA=>?_)
 rotate_left
 ·intro wS hSw;(try dsimp only at hSw);obtain ⟨s1,s3,s4⟩:=hSw;(go_simp;try with_reducible rfl)
 try simp only [sA1,sA2,sA3,Act.put,sA4,sA5,sA6]
 refine wpAnyN_take (i:=10) (v:=?_) hA rfl (by decide) (by kernel_rfl) (by kernel_rfl) (fun _ _ _ h=>h) (Or.inl ⟨by rfl,?_⟩) hF (fun hA=>?_)
 rotate_left
 ·intro wS hSw;(try dsimp only at hSw);obtain ⟨s1,s3,s4⟩:=hSw;(go_simp;try with_reducible rfl)
 try simp only [sA1,sA2,sA3,Act.put,sA4,sA5,sA6]
 refine wpAnyN_take (i:=11) (v:=?_) hA rfl (by decide) (by kernel_rfl) (by kernel_rfl) (fun _ _ _ h=>h) (Or.inl ⟨by rfl,?_⟩) hF (fun hA=>?_)
 rotate_left
 ·intro wS hSw;(try dsimp only at hSw);obtain ⟨s1,s3,s4⟩:=hSw;(go_simp;try with_reducible rfl)
 try simp only [sA1,sA2,sA3,Act.put,sA4,sA5,sA6]
 refine wpAnyN_take (i:=13) (v:=?_) hA rfl (by decide) (by kernel_rfl) (by kernel_rfl) (fun _ _ _ h=>h) (Or.inl ⟨by rfl,?_⟩) hF (fun hA=>?_)
 rotate_left
 ·intro wS hSw;(try dsimp only at hSw);obtain ⟨s1,s3,s4⟩:=hSw;(go_simp;try with_reducible rfl)
 try simp only [sA1,sA2,sA3,Act.put,sA4,sA5,sA6]
 refine wpAnyN_take (i:=14) (v:=?_) hA rfl (by decide) (by kernel_rfl) (by kernel_rfl) (fun _ _ _ h=>h) (Or.inl ⟨by rfl,?_⟩) hF (fun hA=>?_)
 rotate_left
 ·intro wS hSw;(try dsimp only at hSw);obtain ⟨s1,s3,s4⟩:=hSw;(go_simp;try with_reducible rfl)
 try simp only [sA1,sA2,sA3,Act.put,sA4,sA5,sA6]
 refine wpAnyN_take (i:=15) (v:=?_) hA rfl (by decide) (by kernel_rfl) (by kernel_rfl) (fun _ _ _ h=>h) (Or.inl ⟨by rfl,?_⟩) hF (fun hA=>?_)
 rotate_left
 ·intro wS hSw;(try dsimp only at hSw);obtain ⟨s1,s3,s4⟩:=hSw;(go_simp;try with_reducible rfl)
 try simp only [sA1,sA2,sA3,Act.put,sA4,sA5,sA6]
 refine wpAnyN_take (i:=16) (v:=?_) hA rfl (by decide) (by kernel_rfl) (by kernel_rfl) (fun _ _ _ h=>h) (Or.inl ⟨by rfl,?_⟩) hF (fun hA=>?_)
 rotate_left
 ·intro wS hSw;(try dsimp only at hSw);obtain ⟨s1,s3,s4⟩:=hSw;(go_simp;try with_reducible rfl)
 try simp only [sA1,sA2,sA3,Act.put,sA4,sA5,sA6]
 refine wpAnyN_take (i:=17) (v:=?_) hA rfl (by decide) (by kernel_rfl) (by kernel_rfl) (fun _ _ _ h=>h) (Or.inl ⟨by rfl,?_⟩) hF (fun hA=>?_)
 rotate_left
 ·intro wS hSw;(try dsimp only at hSw);obtain ⟨s1,s3,s4⟩:=hSw;(go_simp;try with_reducible rfl)
 try simp only [sA1,sA2,sA3,Act.put,sA4,sA5,sA6]
 refine wpAnyN_take (i:=18) (v:=?_) hA rfl (by decide) (by kernel_rfl) (by kernel_rfl) (fun _ _ _ h=>h) (Or.inl ⟨by rfl,?_⟩) hF (fun hA=>?_)
 rotate_left
 ·intro wS hSw;(try dsimp only at hSw);obtain ⟨s1,s3,s4⟩:=hSw;(go_simp;try with_reducible rfl)
 try simp only [sA1,sA2,sA3,Act.put,sA4,sA5,sA6]
 refine wpAnyN_take (i:=19) (v:=?_) hA rfl (by decide) (by kernel_rfl) (by kernel_rfl) (fun _ _ _ h=>h) (Or.inl ⟨by rfl,?_⟩) hF (fun hA=>?_)
 rotate_left
 ·intro wS hSw;(try dsimp only at hSw);obtain ⟨s1,s3,s4⟩:=hSw;(go_simp;try with_reducible rfl)
 try simp only [sA1,sA2,sA3,Act.put,sA4,sA5,sA6]
 refine wpAnyN_take (i:=20) (v:=?_) hA rfl (by decide) (by kernel_rfl) (by kernel_rfl) (fun _ _ _ h=>h) (Or.inl ⟨by rfl,?_⟩) hF (fun hA=>?_)
 rotate_left
 ·intro wS hSw;(try dsimp only at hSw);obtain ⟨s1,s3,s4⟩:=hSw;(go_simp;try with_reducible rfl)
 try simp only [sA1,sA2,sA3,Act.put,sA4,sA5,sA6]
 refine wpAnyN_take (i:=21) (v:=?_) hA rfl (by decide) (by kernel_rfl) (by kernel_rfl) (fun _ _ _ h=>h) (Or.inl ⟨by rfl,?_⟩) hF (fun hA=>?_)
 rotate_left
 ·intro wS hSw;(try dsimp only at hSw);obtain ⟨s1,s3,s4⟩:=hSw;(go_simp;try with_reducible rfl)
 try simp only [sA1,sA2,sA3,Act.put,sA4,sA5,sA6]
 refine wpAnyN_take (i:=22) (v:=?_) hA rfl (by decide) (by kernel_rfl) (by kernel_rfl) (fun _ _ _ h=>h) (Or.inl ⟨by rfl,?_⟩) hF (fun hA=>?_)
 rotate_left
 ·intro wS hSw;(try dsimp only at hSw);obtain ⟨s1,s3,s4⟩:=hSw;(go_simp;try with_reducible rfl)
 try simp only [sA1,sA2,sA3,Act.put,sA4,sA5,sA6]
 refine wpAnyN_one (i:=12) hA (by kernel_rfl) (by decide) rfl (fun K hK=>?_)
 go_simp
 go_at_call 23
 refine (enum_v _ O co out _ rfl (hO.fr0 (drewF w)) (by omega) (2 * (at_ - own)) (by omega) _ (by simp)).mono ?_
 rintro e w1 ⟨A1,k1,rfl,ho1,hf1⟩
 have F1:=(drewF w).step0 hf1
 have d1:=(World.cell?_of_block (a:=⟨p,1,none⟩) (F1.block p hlt (by simp [noB]))).trans c1
 have d3:=(World.cell?_of_block (a:=⟨p,3,none⟩) (F1.block p hlt (by simp [noB]))).trans c3
 have d4:=(World.cell?_of_block (a:=⟨p,4,none⟩) (F1.block p hlt (by simp [noB]))).trans c4
 refine hK.out _ _ ⟨d1,d3,d4⟩ (fun hA=>?_)
 clear hK K
 have hF1:(fun w':World=>w'.cell? ⟨p,1,none⟩ = some (.slice T target.length ct) ∧ w'.cell? ⟨p,3,none⟩ = some (.slice O out.length co) ∧ w'.cell? ⟨p,4,none⟩ = some (.int .i64 own)) w1:=⟨d1,d3,d4⟩
 refine wpAnyN_one (i:=23) hA (by kernel_rfl) (by decide) rfl (fun K hK=>?_)
 refine step_appCt w _ rfl _ _ rfl A1 _ k1 (out ++ numB (2 * (at_ - own))) rfl (by simp) ho1 (cutA T ct own 1) _ _ ((target.drop own).take (at_ - own)) rfl (HS.fr0 F1) (by simp;omega) (by simp;omega) F1.size ?_
 intro A2 k2 w2 hc2 hm2 ho2 hg2 hb2
 have F2:=own_grow (w0:=w) ho1 F1 hg2
 have e1:=(World.cell?_of_block (a:=⟨p,1,none⟩) (F2.block p hlt (by simp [noB]))).trans c1
 have e3:=(World.cell?_of_block (a:=⟨p,3,none⟩) (F2.block p hlt (by simp [noB]))).trans c3
 have e4:=(World.cell?_of_block (a:=⟨p,4,none⟩) (F2.block p hlt (by simp [noB]))).trans c4
 have g3:=(World.frozen?_of_block (a:=⟨p,3,none⟩) (F2.block p hlt (by simp [noB]))).trans f3
 have g4:=(World.frozen?_of_block (a:=⟨p,4,none⟩) (F2.block p hlt (by simp [noB]))).trans f4
 refine hK.out _ _ ⟨e1,e3,e4⟩ (fun hA=>?_)
 clear hK K hF1 d1 d3 d4
 refine wpAnyN_end rfl (by kernel_rfl) ?_
 simp only [List.drop_succ_cons,List.drop_zero]
 go_wp2
 go_end0
 have hset:=((Blk.fr h F2 (by simp [noB])).set 3 (.slice A2 (out ++ numB (2 * (at_ - own)) ++ (target.drop own).take (at_ - own)).length k2)).set 4 (.int .i64 at_)
 have hoff:Off A2 (fun b=>b ≠ p):=by
  intro a ha
  have:=(ho2.lt a.block (by rw [ha];rfl)).1
  omega
 have hFr:Fr (oneB p) w2 ((w2.setCell ⟨p,3,none⟩ (.slice A2 (out ++ numB (2 * (at_ - own)) ++ (target.drop own).take (at_ - own)).length k2)).setCell ⟨p,4,none⟩ (.int .i64 at_)) :=
  ((Fr.refl (oneB p) w2).setCell (p:=⟨p,3,none⟩) (fun _=>rfl) _).setCell (p:=⟨p,4,none⟩) (fun _=>rfl) _
 have hsl:=(Sl.own ho2).fr hFr (hoff.mono (fun b hb hx=>hb hx))
 have hF:=(Fr.any F2 (M:=oneB p)).trans hFr (fun _ _ hx=>hx)
 refine ⟨A2,k2,rfl,?_,?_,?_,hoff,?_⟩
 ·unfold MkB
  simpa [List.append_assoc] using hset
 ·simpa [List.append_assoc] using hc2
 ·simpa [List.append_assoc] using hsl
 ·simpa [List.append_assoc] using hF
set_option maxRecDepth 100000 in
theorem flush_none (w:World) (p:Nat) (A:Option Addr) (nb cb:Nat) (T:Option Addr) (nt ct:Nat) (mv:Value) (O:Option Addr) (co:Nat) (out:List UInt8) (own at_:Nat)
  (h:MkB w p A nb cb T nt ct mv O out.length co own) (hO:Sl w O (bv out)) (hoff:Off O (fun b=>b ≠ p)) (hco:out.length ≤ co) (h1:at_ ≤ own) :
  Calls Try.prog 69 #[.pointer (some ⟨p,0,none⟩),.int .i64 at_] w (FlushTo w p A nb cb T nt ct mv out at_):=by
 have c4:w.cell? ⟨p,4,none⟩ = some (.int .i64 own):=Blk.cell h 4
 have f4:=Blk.frozen h 4
 go_enter Try.func69,Try.ntmps69
 go_wp2
 go_end0
 have hset:=Blk.set h 4 (.int .i64 at_)
 have hFr:Fr (oneB p) w (w.setCell ⟨p,4,none⟩ (.int .i64 at_)):=(Fr.refl (oneB p) w).setCell (p:=⟨p,4,none⟩) (fun _=>rfl) _
 exact ⟨O,co,rfl,by unfold MkB;simpa using hset,hco,hO.fr hFr (hoff.mono (fun b hb hx=>hb hx)),hoff,hFr⟩
end Go.Proofs.Ytahllkifmmjbdaa
