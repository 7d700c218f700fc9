/- Contracts: readers and numbers of package enc. -/
import Derived.Test.YtahllkifmmjbdaaProg
import Derived.Test.YtahllkifmmjbdaaMemKp
import Derived.Test.YtahllkifmmjbdaaDeltaPKp
import Derived.WalkSpells
import Derived.Outline
set_option linter.unusedVariables false
set_option linter.unusedSimpArgs false
namespace Go.Proofs.Ytahllkifmmjbdaa
open Go.RowKit
theorem ET.mk' {P:Program} {t e:TypeId} {z:Value} {size bytes:Nat} (ht:P.underlying t = some (.slice e))
  (h:(P.info? e).map (fun i=>(i.zero,i.size,i.bytes)) = some (some z,size,bytes)) (hz:z.cells.size = size) (hs:0 < size) (hb:0 < bytes):ET P t e size bytes:=by
 obtain ⟨i,h1,h2,h3,h4⟩:=info_parts h
 exact ⟨ht,⟨i,z,h1,h2,h3,h4,hz⟩,hs,hb⟩
theorem etBytes:ET Try.prog 25 5 1 1:=ET.mk' (z:=.int .u8 0) Try.underlying25 (by kernel_rfl) rfl (by decide) (by decide)
@[go_sem] theorem bytes_eq_nil (w:World) (a:Option Addr) (n c:Nat):(binOp .eql 25 (.slice a n c) (.slice none 0 0)).run Try.prog w = .ok (.bool a.isNone) w :=
 Lib.run_eql_slice_nil w _ _ a n c 0 0 Try.underlying25
section
variable (w:World) (a:Option Addr) (n c:Nat)
noncomputable def sliceElse (w:World) (a:Option Addr) (n c:Nat) (lo hi:Option Value):Result Value:=(Instr.slice 25 (.slice a n c) lo hi none).run Try.prog w
set_option maxRecDepth 100000 in
@[simp] theorem bs_l (k:IntKind) (l:Int) :
  (Instr.slice 25 (.slice a n c) (some (.int k l)) none none).run Try.prog w = if 0 ≤ l ∧ l ≤ n then .ok (.slice (cutA a c l.toNat 1) (n - l.toNat) (c - l.toNat)) w else sliceElse w a n c (some (.int k l)) none:=by
 split
 ·rename_i h
  rw [run_slice_l w 25 a n c Try.underlying25 k l h.1 h.2];rfl
 ·rfl
set_option maxRecDepth 100000 in
@[simp] theorem bs_lh (k k':IntKind) (l h:Int) :
  (Instr.slice 25 (.slice a n c) (some (.int k l)) (some (.int k' h)) none).run Try.prog w = if 0 ≤ l ∧ l ≤ h ∧ h ≤ c then .ok (.slice (cutA a c l.toNat 1) (h.toNat - l.toNat) (c - l.toNat)) w else sliceElse w a n c (some (.int k l)) (some (.int k' h)):=by
 split
 ·rename_i hh
  rw [run_slice_lh w 25 a n c Try.underlying25 k k' l h hh.1 hh.2.1 hh.2.2];rfl
 ·rfl
end
def NewBytes (w:World) (l:List UInt8) (e:Ending) (w':World):Prop :=
 ∃ A c,e = .returned (.slice A l.length c) ∧ w'.ownsRow w.heap.size 5 1 (.slice A l.length c) l.length (bv l) ∧ Fr noB w w'
theorem NewBytes.mk {w w':World} {v:Value} {n:Nat} {l:List UInt8} (ho:w'.ownsRow w.heap.size 5 1 v n (bv l)) (hf:Fr noB w w'):NewBytes w l (.returned v) w':=by
 have hn:n = l.length:=by have:=ho.1;simp at this;omega
 subst hn
 obtain ⟨A,c,rfl,_,_⟩:=own_form ho
 exact ⟨A,c,rfl,ho,hf⟩
theorem clone_any (w:World) (A:Option Addr) (c:Nat) (l:List UInt8) (hs:Sl w A (bv l)) (hb:l.length ≤ 140737488355328) :
  Calls Try.prog 35 #[.slice A l.length c] w (NewBytes w l):=by
 rcases A with _ | ad
 ·have hl:l = []:=by
   cases l with
   | nil=>rfl
   | cons b t=>obtain ⟨g,off,h,_⟩:=hs (by simp [bv]);cases h
  subst hl
  go_enter Try.func35,Try.ntmps35
  go_wp2
  go_ret
  exact ⟨none,0,rfl,World.ownsRow_nil _ _ _ _,Fr.refl _ _⟩
 ·have hown:=World.ownsRow_lit (base:=w.heap.size) (e:=5) (size:=1) w #[] 0 (Nat.le_refl _) (by simp [maxLen]) rfl
  have hs1:Sl (w.alloc (.cells #[] 5)) (some ad) (bv l):=hs.fr0 ((Fr.refl noB w).alloc _)
  go_enter Try.func35,Try.ntmps35
  go_wp2_with (at_builtin;refine wpList_app _ etBytes rfl _ _ rfl w.heap.size _ _ _ rfl hown (some ad) l.length c (bv l) rfl hs1 (by simp) (bv_one l) (by omega) (by simp) ?_;intro v' w1 h1 h2 h3)
  go_ret
  obtain ⟨A',c',rfl,_,_⟩:=own_form h1
  simp only [Nat.zero_add,List.nil_append] at h1
  exact ⟨A',c',by simp,h1,((Fr.refl noB w).alloc _).stepG (r:=some w.heap.size) h2 (by intro g hg;injection hg with hg;omega)⟩
def Rdr (w:World) (p:Nat) (s:RS) (Q:Nat → Prop):Prop :=
 ∃ A c,Blk w p 96 [.slice A s.1.length c,.bool s.2] ∧ s.1.length ≤ c ∧ Sl w A (bv s.1) ∧ Off A Q
theorem Rdr.mono {w:World} {p:Nat} {s:RS} {Q Q':Nat → Prop} (h:Rdr w p s Q) (hq:∀ b,Q b → Q' b):Rdr w p s Q':=by
 obtain ⟨A,c,h1,h2,h3,h4⟩:=h
 exact ⟨A,c,h1,h2,h3,h4.mono hq⟩
theorem Rdr.lt {w:World} {p:Nat} {s:RS} {Q:Nat → Prop} (h:Rdr w p s Q):p < w.heap.size:=by
 obtain ⟨A,c,h1,_⟩:=h
 exact h1.lt
theorem Rdr.fr {w w':World} {p:Nat} {s:RS} {Q M:Nat → Prop} (h:Rdr w p s Q) (f:Fr M w w') (hp:¬ M p) (hq:∀ b,Q b → ¬ M b):Rdr w' p s Q:=by
 obtain ⟨A,c,h1,h2,h3,h4⟩:=h
 exact ⟨A,c,h1.fr f hp,h2,h3.fr f (h4.mono hq),h4⟩
theorem Rdr.far {w:World} {p:Nat} {s:RS} {A:Option Addr} {c:Nat} (hb:Blk w p 96 [.slice A s.1.length c,.bool s.2]) (hs:Sl w A (bv s.1)) (hne:s.1 ≠ []):∃ g off,A = some ⟨g,off,none⟩ ∧ g ≠ p ∧ g < w.heap.size ∧ ∀ j u,(bv s.1)[j]? = some u → w.cell? ⟨g,off + j,none⟩ = some u:=by
 obtain ⟨g,off,e,hg,hc⟩:=hs (bv_ne hne)
 refine ⟨g,off,e,?_,hg,hc⟩
 rintro rfl
 have h0:0 < s.1.length:=List.length_pos_iff.2 hne
 have:=hc 0 _ (bv_get s.1 0 h0)
 rw [hb.cell] at this
 rcases off with _ | _ | off <;> simp at this
theorem good_any (w:World) (p:Nat) (s:RS) (Q:Nat → Prop) (h:Rdr w p s Q) :
  Calls Try.prog 31 #[.pointer (some ⟨p,0,none⟩)] w fun e w'=>e = .returned (.bool (!s.2)) ∧ w = w':=by
 obtain ⟨A,c,hb,hc,hs,ho⟩:=h
 have h1:w.cell? ⟨p,1,none⟩ = some (.bool s.2):=hb.cell 1
 clear hb hs
 go_enter Try.func31,Try.ntmps31
 go_wp2
 go_ret
 exact ⟨rfl,rfl⟩
theorem left_any (w:World) (p:Nat) (s:RS) (Q:Nat → Prop) (h:Rdr w p s Q) :
  Calls Try.prog 73 #[.pointer (some ⟨p,0,none⟩)] w fun e w'=>e = .returned (.int .i64 s.1.length) ∧ w = w':=by
 obtain ⟨A,c,hb,hc,hs,ho⟩:=h
 have h1:w.cell? ⟨p,0,none⟩ = some (.slice A s.1.length c):=hb.cell 0
 clear hb hs
 go_enter Try.func73,Try.ntmps73
 go_wp2
 go_ret
 exact ⟨rfl,rfl⟩
def RdrTo (w:World) (p:Nat) (v:Value) (s:RS) (Q:Nat → Prop) (e:Ending) (w':World):Prop:=e = .returned v ∧ Rdr w' p s Q ∧ Fr (oneB p) w w'
theorem fail_any (w:World) (p:Nat) (s:RS) (Q:Nat → Prop) (h:Rdr w p s Q) :
  Calls Try.prog 53 #[.pointer (some ⟨p,0,none⟩)] w (RdrTo w p (.tuple #[]) ([],true) Q):=by
 obtain ⟨A,c,hb,hc,hs,ho⟩:=h
 have h1:w.cell? ⟨p,0,none⟩ = some (.slice A s.1.length c):=hb.cell 0
 have h2:w.cell? ⟨p,1,none⟩ = some (.bool s.2):=hb.cell 1
 have h3:=hb.frozen 0
 have h4:=hb.frozen 1
 have H:=Lib.hid hb
 clear hb hs
 go_enter Try.func53,Try.ntmps53
 go_wp2
 go_end0
 refine ⟨rfl,⟨none,0,?_,Nat.le_refl _,Sl.nil _ _,Off.none⟩,((Fr.refl (oneB p) w).setCell (p:=⟨p,0,none⟩) (fun _=>rfl) _).setCell (p:=⟨p,1,none⟩) (fun _=>rfl) _⟩
 have:=(H.out.set 0 (.slice none 0 0)).set 1 (.bool true)
 simpa using this
def Took1 (w:World) (p:Nat) (s:RS) (Q:Nat → Prop) (e:Ending) (w':World):Prop :=
 Fr (oneB p) w w' ∧
 ((s.2 = true ∨ s.1 = []) ∧ e = .returned (.slice none 0 0) ∧ Rdr w' p ([],true) Q ∨
  ∃ b t g off,s = (b :: t,false) ∧ e = .returned (.slice (some ⟨g,off,none⟩) 1 1) ∧ w'.cell? ⟨g,off,none⟩ = some (.int .u8 (b.toNat:Int)) ∧ Rdr w' p (t,false) Q)
theorem take1_any (w:World) (p:Nat) (s:RS) (Q:Nat → Prop) (h:Rdr w p s Q) (hlen:s.1.length ≤ 140737488355328) :
  Calls Try.prog 52 #[.pointer (some ⟨p,0,none⟩),.int .i64 1] w (Took1 w p s Q):=by
 have hR:=h
 obtain ⟨l,bad⟩:=s
 obtain ⟨A,c,hb,hc,hs,ho⟩:=h
 simp only at hb hc hs hlen
 have h1:w.cell? ⟨p,0,none⟩ = some (.slice A l.length c):=hb.cell 0
 have h2:w.cell? ⟨p,1,none⟩ = some (.bool bad):=hb.cell 1
 have h3:=hb.frozen 0
 cases bad with
 | true =>
  have H:=Lib.hid hb
  clear hb hs
  go_enter Try.func52,Try.ntmps52
  go_wp2_with (go_at_call 53;refine (fail_any _ _ _ _ hR).mono ?_;rintro e w' ⟨rfl,hr,hf⟩)
  go_ret
  exact ⟨hf,.inl ⟨.inl rfl,rfl,hr⟩⟩
 | false =>
  cases l with
  | nil =>
   have H:=Lib.hid hb
   clear hb hs
   go_enter Try.func52,Try.ntmps52
   go_wp2_with (go_at_call 53;refine (fail_any _ _ _ _ hR).mono ?_;rintro e w' ⟨rfl,hr,hf⟩)
   go_ret
   exact ⟨hf,.inl ⟨.inr rfl,rfl,hr⟩⟩
  | cons b t =>
   obtain ⟨g,off,rfl,hgp,hg,hcell⟩:=Rdr.far (s:=(b :: t,false)) hb hs (by simp)
   have hc0:w.cell? ⟨g,off,none⟩ = some (.int .u8 (b.toNat:Int)):=hcell 0 _ (bv_get (b :: t) 0 (by simp))
   have HB:=Lib.hid hb
   have HS:=Lib.hid hs
   have HC:=Lib.hid hc0
   clear hb hs hcell hc0 hR
   simp only [List.length_cons] at h1 hc hlen
   go_enter Try.func52,Try.ntmps52
   go_wp2
   go_ret
   have hF:Fr (oneB p) w (w.setCell ⟨p,0,none⟩ (.slice (cutA (some ⟨g,off,none⟩) c 1 1) t.length (c - 1))):=(Fr.refl (oneB p) w).setCell (p:=⟨p,0,none⟩) (fun _=>rfl) _
   have hoff:Off (some ⟨g,off,none⟩) (fun b=>¬ oneB p b):=by
    intro a ha;injection ha with ha;subst ha;exact hgp
   refine ⟨hF,.inr ⟨b,t,g,off,rfl,rfl,?_,cutA (some ⟨g,off,none⟩) c 1 1,c - 1,?_,?_,?_,Off.cut ho⟩⟩
   ·exact (World.cell?_of_block (w:=w) (a:=⟨g,off,none⟩) (hF.block g hg hgp)).trans HC.out
   ·have:=HB.out.set 0 (.slice (cutA (some ⟨g,off,none⟩) c 1 1) t.length (c - 1))
    simpa using this
   ·simp only;omega
   ·exact ((HS.out.cutB (k:=1) (c:=c) (by simpa using hc)).fr hF (Off.cut hoff))
theorem take1_none (w:World) (p:Nat) (s:RS) (Q:Nat → Prop) (h:Rdr w p s Q) (hlen:s.1.length ≤ 140737488355328) (hn:s.2 = true ∨ s.1 = []) :
  Calls Try.prog 52 #[.pointer (some ⟨p,0,none⟩),.int .i64 1] w (RdrTo w p (.slice none 0 0) ([],true) Q):=by
 refine (take1_any w p s Q h hlen).mono ?_
 rintro e w' ⟨hf,⟨_,rfl,hr⟩ | ⟨b,t,g,off,rfl,_⟩⟩
 ·exact ⟨rfl,hr,hf⟩
 ·simp at hn
def Took1S (w:World) (p:Nat) (b:UInt8) (t:List UInt8) (Q:Nat → Prop) (e:Ending) (w':World):Prop :=
 ∃ g off,e = .returned (.slice (some ⟨g,off,none⟩) 1 1) ∧ w'.cell? ⟨g,off,none⟩ = some (.int .u8 (b.toNat:Int)) ∧ Rdr w' p (t,false) Q ∧ Fr (oneB p) w w'
theorem take1_some (w:World) (p:Nat) (b:UInt8) (t:List UInt8) (Q:Nat → Prop) (h:Rdr w p (b :: t,false) Q) (hlen:t.length < 140737488355328) :
  Calls Try.prog 52 #[.pointer (some ⟨p,0,none⟩),.int .i64 1] w (Took1S w p b t Q):=by
 refine (take1_any w p _ Q h (by simp;omega)).mono ?_
 rintro e w' ⟨hf,⟨h,_⟩ | ⟨b',t',g,off,h,rfl,hc,hr⟩⟩
 ·simp at h
 ·simp only [Prod.mk.injEq,List.cons.injEq,and_true] at h
  obtain ⟨rfl,rfl⟩:=h
  exact ⟨g,off,rfl,hc,hr,hf⟩
def NewRdr (w:World) (l:List UInt8) (e:Ending) (w':World):Prop :=
 ∃ p,e = .returned (.pointer (some ⟨p,0,none⟩)) ∧ w.heap.size ≤ p ∧ Rdr w' p (l,false) (fun b=>w.heap.size ≤ b ∧ b < p) ∧ Fr noB w w'
theorem read_any (w:World) (A:Option Addr) (c:Nat) (l:List UInt8) (hs:Sl w A (bv l)) (hb:l.length ≤ 140737488355328) :
  Calls Try.prog 29 #[.slice A l.length c] w (NewRdr w l):=by
 go_enter Try.func29,Try.ntmps29
 go_wp2_with (go_at_call 35;refine (clone_any w A c l hs hb).mono ?_;rintro e w' ⟨A',c',rfl,hown,hf⟩)
 go_ret
 obtain ⟨_,_,hv,hlc,_⟩:=own_form hown
 injection hv with _ _ hv
 subst hv
 refine ⟨w'.heap.size,rfl,hf.size,⟨A',c',Blk.new _ _ _,hlc,(Sl.own hown).fr0 ((Fr.refl noB w').alloc _),Off.own hown⟩,hf.alloc _⟩
theorem clone_n (w:World) (A:Option Addr) (c:Nat) (l:List UInt8) (n:Nat) (hn:l.length = n) (hs:Sl w A (bv l)) (hb:l.length ≤ 140737488355328) :
  Calls Try.prog 35 #[.slice A n c] w (NewBytes w l):=by subst hn;exact clone_any w A c l hs hb
theorem read_n (w:World) (A:Option Addr) (c:Nat) (l:List UInt8) (n:Nat) (hn:l.length = n) (hs:Sl w A (bv l)) (hb:l.length ≤ 140737488355328) :
  Calls Try.prog 29 #[.slice A n c] w (NewRdr w l):=by subst hn;exact read_any w A c l hs hb
def rn (most i u:Nat) (s:RS):Option (Nat × List UInt8):=if s.2 then none else gnAux most i u s.1
theorem rdNum_rn (most:Nat) (s:RS):rdNum most s = match rn most 0 0 s with | none=>(0,([],true)) | some (n,t)=>(n,(t,false)):=by
 unfold rdNum rn getN
 cases s.2 <;> rfl
theorem rn_bad {most i u:Nat} {s:RS} (h:s.2 = true ∨ s.1 = []):rn most i u s = none:=by
 unfold rn
 rcases h with h | h
 ·simp [h]
 ·rw [h];simp [gnAux]
theorem rn_cons (most i u:Nat) (b:UInt8) (t:List UInt8) (hi:i < 9) :
  rn most i u (b :: t,false) = if 128 ≤ b.toNat then rn most (i + 1) (u + b.toNat % 128 * 128 ^ i) (t,false)
   else if 4611686018427387904 < u + b.toNat % 128 * 128 ^ i ∨ most < u + b.toNat % 128 * 128 ^ i ∨ (b.toNat = 0 ∧ 0 < i) then none else some (u + b.toNat % 128 * 128 ^ i,t):=by
 unfold rn
 simp only [gnAux,Bool.false_eq_true,if_false,if_neg (show ¬ 9 ≤ i by omega)]
theorem rn_nine (most u:Nat) (s:RS):rn most 9 u s = none:=by
 unfold rn
 split
 ·rfl
 ·cases s.1 <;> simp [gnAux]
theorem rdNum_none {most:Nat} {s:RS} (h:rn most 0 0 s = none):rdNum most s = (0,([],true)):=by rw [rdNum_rn,h]
theorem rdNum_some {most:Nat} {s:RS} {n:Nat} {t:List UInt8} (h:rn most 0 0 s = some (n,t)):rdNum most s = (n,(t,false)):=by rw [rdNum_rn,h]
set_option maxHeartbeats 1000000 in
theorem num_any (w:World) (p:Nat) (s:RS) (Q:Nat → Prop) (most:Nat) (hm:most ≤ 4611686018427387904) (h:Rdr w p s Q) (hlen:s.1.length ≤ 140737488355328) :
  Calls Try.prog 30 #[.pointer (some ⟨p,0,none⟩),.int .i64 most] w (RdrTo w p (.int .i64 (rdNum most s).1) (rdNum most s).2 Q):=by
 have HS:=Lib.hid (rdNum_rn most s)
 go_enter Try.func30,Try.ntmps30
 go_wp2
 go_loopw [5,6,7] (fun uv sv _ wr=>∃ (i u:Nat) (si:RS),i ≤ 9 ∧ sv = .int .i64 (7 * i:Nat) ∧ uv = .int .u64 u ∧ u < 128 ^ i ∧ si.1.length ≤ 140737488355328 ∧ Rdr wr p si Q ∧ Fr (oneB p) w wr ∧ Hid (rn most 0 0 s = rn most i u si))
  (fun _ sv _ _=>63 - (intOf sv).toNat)
 case atStart=>exact ⟨0,0,s,by omega,rfl,rfl,by decide,hlen,h,Fr.refl _ _,rfl⟩
 case round =>
  obtain ⟨i,u,si,hi,rfl,rfl,hu,hl,hr,hf,hh⟩:=hrel
  have HU:=Lib.hid hu
  clear hu
  by_cases h9:i = 9
  ·subst h9
   go_wp2_with (go_at_call 53;refine (fail_any _ _ _ _ hr).mono ?_;rintro e w' ⟨rfl,hr',hf'⟩)
   go_ret
   rw [rdNum_none (hh.out.trans (rn_nine _ _ _))]
   exact ⟨rfl,hr',hf.trans hf' (fun _ _ h=>h)⟩
  ·have hi':i < 9:=by omega
   by_cases hn:si.2 = true ∨ si.1 = []
   ·have HN:=Lib.hid hn
    clear hn
    go_wp2_with (go_at_call 52;refine (take1_none _ _ _ _ hr hl HN.out).mono ?_;rintro e w' ⟨rfl,hr',hf'⟩)
    go_ret
    rw [rdNum_none (hh.out.trans (rn_bad HN.out))]
    exact ⟨rfl,hr',hf.trans hf' (fun _ _ h=>h)⟩
   ·obtain ⟨l,bad⟩:=si
    cases l with
    | nil=>simp at hn
    | cons b t =>
     cases bad with
     | true=>simp at hn
     | false =>
      clear hn
      have hb:b.toNat < 256:=b.toNat_lt
      have hl':t.length < 140737488355328:=by simp at hl;omega
      have hc:=rn_cons most i u b t hi'
      have hst:=num_step b.toNat u i hi' HU.out
      have hbit:=num_bits b.toNat u i hb hi' HU.out
      generalize u + b.toNat % 128 * 128 ^ i = u' at hc hst hbit
      obtain ⟨hu1,hu2⟩:=hst
      have HU1:=Lib.hid hu1
      have HC:=Lib.hid hc
      clear hu1 hc hl
      by_cases h128:128 ≤ b.toNat
      ·go_wp2_with (go_at_call 52;refine (take1_some _ _ _ _ _ hr hl').mono ?_;rintro e w' ⟨g,off,rfl,hc,hr',hf'⟩)
       go_roundw
       case rel=>exact ⟨i + 1,u',(t,false),by omega,by go_num,rfl,HU1.out,by simp only;omega,hr',hf.trans hf' (fun _ _ h=>h),hh.out.trans (HC.out.trans (if_pos h128))⟩
       case measure=>simp [intOf];omega
      ·by_cases hbad:4611686018427387904 < u' ∨ most < u' ∨ (b.toNat = 0 ∧ 0 < i)
       ·have HX:=hh.out.trans (HC.out.trans ((if_neg h128).trans (if_pos hbad)))
        have HY:=Lib.hid HX
        clear HX HC hh
        rcases (show 4611686018427387904 < u' ∨ (u' ≤ 4611686018427387904 ∧ most < u') ∨ (u' ≤ 4611686018427387904 ∧ u' ≤ most ∧ b.toNat ≤ 0 ∧ 0 < i) by omega) with h1 | ⟨h1,h2⟩ | ⟨h1,h2,h3,h4⟩
        all_goals
         clear hbad
         go_wp2_with (first | (go_at_call 52;refine (take1_some _ _ _ _ _ hr hl').mono ?_;rintro e w' ⟨g,off,rfl,hc,hr',hf'⟩) | (go_at_call 53;refine (fail_any _ _ _ _ hr').mono ?_;rintro e w'' ⟨rfl,hr'',hf''⟩))
         go_ret
         rw [rdNum_none HY.out]
         exact ⟨rfl,by assumption,(hf.trans (by assumption) (fun _ _ h=>h)).trans (by assumption) (fun _ _ h=>h)⟩
       ·have HX:=hh.out.trans (HC.out.trans ((if_neg h128).trans (if_neg hbad)))
        have HY:=Lib.hid HX
        have h1:u' ≤ 4611686018427387904:=by omega
        have h2:u' ≤ most:=by omega
        have h3:0 < b.toNat ∨ i ≤ 0:=by omega
        clear hbad HC hh HX
        rcases h3 with h3 | h3
        all_goals
         go_wp2_with (go_at_call 52;refine (take1_some _ _ _ _ _ hr hl').mono ?_;rintro e w' ⟨g,off,rfl,hc,hr',hf'⟩)
         all_goals
          go_ret
          rw [rdNum_some HY.out]
          exact ⟨rfl,by assumption,hf.trans (by assumption) (fun _ _ h=>h)⟩
theorem num_eq (w:World) (p:Nat) (s:RS) (Q:Nat → Prop) (most:Nat) (hm:most ≤ 4611686018427387904) (h:Rdr w p s Q) (hlen:s.1.length ≤ 140737488355328) (n:Nat) (s':RS) (hh:rdNum most s = (n,s')) :
  Calls Try.prog 30 #[.pointer (some ⟨p,0,none⟩),.int .i64 most] w (RdrTo w p (.int .i64 n) s' Q):=by
 have:=num_any w p s Q most hm h hlen
 rw [hh] at this
 exact this
end Go.Proofs.Ytahllkifmmjbdaa
