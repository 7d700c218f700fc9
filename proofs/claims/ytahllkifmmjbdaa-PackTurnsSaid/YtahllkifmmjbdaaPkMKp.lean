/- Contracts: slices.Grow, Concat, ContainsFunc, Clone, DeleteFunc of [][]byte as pack.Write calls them. -/
import Derived.Test.YtahllkifmmjbdaaPkLKp
import Derived.Lib.AppendZeros
set_option linter.unusedVariables false
set_option linter.unusedSimpArgs false
namespace Go.Proofs.Ytahllkifmmjbdaa
open Go.RowKit Go.Maps Go.Sort
set_option maxRecDepth 100000
def SameTo (w:World) (v:Value) (e:Ending) (w':World):Prop:=e = .returned v ∧ w' = w
theorem neq_nilSS (w:World):(binOp .eql 22 (.slice none 0 0) (.slice none 0 0)).run Try.prog w = .ok (.bool true) w:=by kernel_rfl
theorem clnil_any (w:World):Calls Try.prog 21 #[.slice none 0 0] w (SameTo w (.slice none 0 0)):=by
 have h:=neq_nilSS w
 go_enter Try.func21,Try.ntmps21
 go_wp2_with fail
 go_ret
 exact ⟨rfl,rfl⟩
theorem idxnil_any (w:World) (f:Value):Calls Try.prog 43 #[.slice none 0 0,f] w (SameTo w (.int .i64 (-1))):=by
 go_enter Try.func43,Try.ntmps43
 go_wp2_with fail
 go_loopg [8] 0 (fun gk iv wx=>gk = 0 ∧ iv = .int .i64 0 ∧ wx = w)
 case atStart=>exact ⟨rfl,rfl,rfl⟩
 case round =>
  obtain ⟨rfl,rfl,rfl⟩:=hrel
  go_wp2_with fail
  go_ret
  exact ⟨rfl,rfl⟩
theorem delnil_any (w:World) (f:Value):Calls Try.prog 20 #[.slice none 0 0,f] w (SameTo w (.slice none 0 0)):=by
 have C:=Lib.hid (idxnil_any w f)
 go_enter Try.func20,Try.ntmps20
 go_wp2_with (go_at_call 43;refine C.out.mono ?_;rintro e w2 ⟨rfl,h2⟩;subst h2)
 go_ret
 exact ⟨rfl,rfl⟩
theorem write1_any (w:World) (A:Option Addr) (n c:Nat) (hn:n ≤ 1048576):Calls Try.prog 16 #[.slice A n c] w (SameTo w (.bool false)):=by
 have h:¬ (1048576:Int) < (n:Int):=by omega
 go_enter Try.func16,Try.ntmps16
 go_wp2_with fail
 go_ret
 exact ⟨rfl,rfl⟩
set_option maxHeartbeats 2000000 in
theorem idxB_any (w:World) (A:Option Addr) (n c:Nat) (rs:List SlW) (hn:rs.length = n) (hs:Sl w A (codB.row rs)) (hb:rs.length ≤ 1000000000000) (hbd:∀ r ∈ rs,r.n ≤ 1048576):Calls Try.prog 43 #[.slice A n c,.func (.func 16) #[] #[]] w (SameTo w (.int .i64 (-1))):=by
 subst hn
 have HS:=Lib.hid hs
 have HB:=Lib.hid hb
 have HD:=Lib.hid hbd
 clear hs hb hbd
 go_enter Try.func43,Try.ntmps43
 go_wp2_with fail
 go_loopg [8] (rs.length - 0) (fun gk iv wx=>∃ i:Nat,iv = .int .i64 (i:Int) ∧ gk = rs.length - i ∧ i ≤ rs.length ∧ wx = w)
 case atStart=>exact ⟨0,rfl,rfl,Nat.zero_le _,rfl⟩
 case round =>
  obtain ⟨i,rfl,rfl,hi,rfl⟩:=hrel
  by_cases hlt:i < rs.length
  ·have i1:(i:Int) < (rs.length:Int):=by omega
   have i0:(0:Int) ≤ (i:Int):=by omega
   obtain ⟨g,off,rfl,hg,hc⟩:=cellB HS.out (by omega)
   have e1:=hc i hlt
   have hrn:=HD.out rs[i] (List.getElem_mem hlt)
   have HKL:=Lib.hid hlt
   generalize rs[i] = r at e1 hrn
   obtain ⟨rA,rn,rc⟩:=r
   have HRN:=Lib.hid hrn
   simp only at e1
   clear hc hg hrn hlt hi
   have wk:wrap64 ((i:Int) + 1) = (i:Int) + 1:=IntWalk.wrap64_in _ (by have:=HKL.out;have:=HB.out;omega)
   go_wp2_with (go_at_call 16;refine (write1_any _ rA rn rc HRN.out).mono ?_;rintro e w2 ⟨rfl,h2⟩;subst h2)
   go_roundg (rs.length - (i + 1))
   case measure=>have:=HKL.out;omega
   case rel=>exact ⟨i + 1,by first | exact congrArg (Value.int .i64) wk | simp,rfl,HKL.out,rfl⟩
  ·have i1:¬ (i:Int) < (rs.length:Int):=by omega
   clear hlt hi
   go_wp2_with fail
   go_ret
   exact ⟨rfl,rfl⟩
theorem contB_any (w:World) (A:Option Addr) (n c:Nat) (rs:List SlW) (hn:rs.length = n) (hs:Sl w A (codB.row rs)) (hb:rs.length ≤ 1000000000000) (hbd:∀ r ∈ rs,r.n ≤ 1048576):Calls Try.prog 15 #[.slice A n c,.func (.func 16) #[] #[]] w (SameTo w (.bool false)):=by
 have C:=Lib.hid (idxB_any w A n c rs hn hs hb hbd)
 go_enter Try.func15,Try.ntmps15
 go_wp2_with (go_at_call 43;refine C.out.mono ?_;rintro e w2 ⟨rfl,h2⟩;subst h2)
 go_ret
 exact ⟨rfl,rfl⟩
theorem wpList_appRun {P:Program} {w w2:World} {ops:Array Oper} {rest:List Oper} {o:Oper} {a:Act} {Q:Exit → Act → World → Prop} (hg:o.guard = none) (s x:Operand) (t u:TypeId)
  (ho:o.op = .call { callee:=.builtin .append,args:=#[s,x],argTypes:=#[t,u] }) (vs vx v:Value) (hs:a.eval s = vs) (hx:a.eval x = vx) (hrun:(Builtin.append_ #[t,u] o.type #[vs,vx]).run P w = .ok v w2) (h:wpList P ops Q rest (a.put o.dst v) w2):wpList P ops Q (o :: rest) a w:=by
 refine wpList_plain hg fun K hK=>?_
 unfold Oper.wp execOp
 simp only [ho,resolve,invoke,builtin,Sem.run_bind,Sem.run_pure,Result.andThen_ok,List.map_toArray,List.map_cons,List.map_nil,hs,hx,hrun]
 exact hK _ _ h
def GrTo (w:World) (e:Ending) (w':World):Prop:=∃ (A:Option Addr) (c:Nat),e = .returned (.slice A 0 c) ∧ OwnC codB w w' A c [] ∧ Fr noB w w'
theorem zeroB_cells (n:Nat):(Builtin.zeroCells (Value.slice none 0 0).cells n).size = n:=by simp [Builtin.zeroCells,Value.cells]
theorem growB_any (w:World) (n:Nat) (hn:n ≤ 1000000000):Calls Try.prog 44 #[.slice none 0 0,.int .i64 (n:Int)] w (GrTo w):=by
 have i0:¬ (n:Int) < 0:=by omega
 by_cases h0:n = 0
 ·subst h0
  go_enter Try.func44,Try.ntmps44
  go_wp2_with fail
  go_ret
  exact ⟨none,0,rfl,World.ownsRow_nil _ _ _ _,Fr.refl _ _⟩
 ·obtain ⟨i,hi,hi2⟩:=Option.map_eq_some_iff.1 (show (Try.prog.info? 25).map (fun i=>(i.zero,i.size,i.bytes)) = some (some (.slice none 0 0),1,24) by kernel_rfl)
  simp only [Prod.mk.injEq] at hi2
  have hrun:=fun ty=>Lib.run_append_nil_zeros (P:=Try.prog) w 22 3 ty 25 i (.slice none 0 0) .i64 _ Try.underlying22 Try.underlying3 hi hi2.1 n (by omega) (by rw [hi2.2.1];decide) (by omega) (by rw [hi2.2.2];omega)
  have hgc:=grownCap_ge w n 0 25
  have hgm:=grownCap_le_maxLen w n 0 25 (by unfold maxLen;omega)
  obtain ⟨gc,hgg⟩:∃ gc,gc = grownCap w n 0 25:=⟨_,rfl⟩
  rw [← hgg] at hgc hgm hrun
  obtain ⟨cs,hcs⟩:∃ cs,cs = Builtin.zeroCells (Value.slice none 0 0).cells n ++ Builtin.zeroCells (Value.slice none 0 0).cells (gc - n):=⟨_,rfl⟩
  have hsz:cs.size = gc:=by rw [hcs,Array.size_append,zeroB_cells,zeroB_cells];omega
  rw [← hcs] at hrun
  clear hgg hcs hi hi2
  obtain ⟨W,hW⟩:∃ W,W = w.drew.alloc (.cells cs 25):=⟨_,rfl⟩
  have HW:=Lib.hid (show Fr noB w W ∧ OwnC codB w W (some ⟨w.heap.size,0,none⟩) gc [] from by
   rw [hW]
   refine ⟨((Fr.refl noB w).drew).alloc _,by simp [Cod.row],.inr ⟨w.heap.size,gc,cs,rfl,Nat.le_refl _,?_,Nat.zero_le _,hgm,by rw [hsz];exact (Nat.mul_one gc).symm,by simp [Cod.row]⟩⟩
   exact heap_alloc_new w.drew _)
  rw [← hW] at hrun
  have i1:(0:Int) < (n:Int):=by omega
  have i2:((n:Int) == 0) = false:=by rw [beq_eq_false_iff_ne];omega
  have HGC:=Lib.hid (And.intro hgc hgm)
  have HN:=Lib.hid hn
  have wn:wrap64 (n:Int) = (n:Int):=IntWalk.wrap64_in _ (by omega)
  clear hW hgc hgm hsz h0 hn
  go_enter Try.func44,Try.ntmps44
  have HRUN:=Lib.hid (show ∀ ty,(Builtin.append_ #[22,3] ty #[.slice none 0 0,.int .i64 (wrap64 (n:Int))]).run Try.prog w = .ok (.slice (some ⟨w.heap.size,0,none⟩) n gc) W from fun ty=>by rw [wn];exact hrun ty)
  have j1:(0:Int) < wrap64 (n:Int):=by rw [wn];exact i1
  clear hrun wn i1
  go_wp2_with (at_builtin;refine wpList_appRun rfl _ _ 22 3 rfl (.slice none 0 0) (.int .i64 (wrap64 (n:Int))) (.slice (some ⟨w.heap.size,0,none⟩) n gc) rfl rfl (HRUN.out _) ?_)
  go_ret
  exact ⟨_,gc,rfl,HW.out.2,HW.out.1⟩
def CcTo (w:World) (rs:List SlW) (e:Ending) (w':World):Prop:=∃ (A:Option Addr) (c:Nat),e = .returned (.slice A rs.length c) ∧ OwnC codB w w' A c rs ∧ Fr noB w w'
set_option maxHeartbeats 4000000 in
theorem concB_any (w:World) (B:Nat) (A:Option Addr) (c:Nat) (rs:List SlW) (hB:Blk w B 22 [.slice A rs.length c,.slice none 0 0]) (hs:Sl w A (codB.row rs)) (hb:rs.length ≤ 1000000000):Calls Try.prog 17 #[.slice (some ⟨B,0,none⟩) 2 2] w (CcTo w rs):=by
 have HB:=Lib.hid hB
 have HS:=Lib.hid hs
 have HN:=Lib.hid hb
 have e0:w.cell? ⟨B,0,none⟩ = some (.slice A rs.length c):=hB.cell 0
 have e1:w.cell? ⟨B,1,none⟩ = some (.slice none 0 0):=hB.cell 1
 have wn:wrap64 (rs.length:Int) = (rs.length:Int):=IntWalk.wrap64_in _ (by omega)
 have n0:¬ (rs.length:Int) < 0:=by omega
 clear hB hs hb
 go_enter Try.func17,Try.ntmps17
 go_wp2_with fail
 go_loopg [3,11] 2 (fun gk sv iv wx=>wx = w ∧ (sv = .int .i64 0 ∧ iv = .int .i64 0 ∧ gk = 2 ∨ sv = .int .i64 (rs.length:Int) ∧ iv = .int .i64 1 ∧ gk = 1 ∨ sv = .int .i64 (rs.length:Int) ∧ iv = .int .i64 2 ∧ gk = 0))
 case atStart=>exact ⟨rfl,.inl ⟨rfl,rfl,rfl⟩⟩
 case round =>
  obtain ⟨hw,⟨rfl,rfl,rfl⟩ | ⟨rfl,rfl,rfl⟩ | ⟨rfl,rfl,rfl⟩⟩:=hrel <;> (replace hw:=hw.symm;subst hw)
  ·go_wp2_with fail
   go_roundg 1
   case measure=>omega
   case rel=>exact ⟨rfl,.inr (.inl ⟨by rw [wn],rfl,rfl⟩)⟩
  ·go_wp2_with fail
   go_roundg 0
   case measure=>omega
   case rel=>exact ⟨rfl,.inr (.inr ⟨by rw [wn],rfl,rfl⟩)⟩
  ·go_wp2_with (go_at_call 44;refine (growB_any _ rs.length HN.out).mono ?_;rintro e w1 ⟨A1,c1,rfl,ho,hf⟩;have HO:=Lib.hid ho;have HF:=Lib.hid hf;clear ho hf)
   have H0:=Lib.hid (show ∃ (A2:Option Addr) (c2:Nat) (l:List SlW),Value.slice A1 0 c1 = .slice A2 l.length c2 ∧ OwnC codB w w1 A2 c2 l ∧ (l = [] ∧ Value.int .i64 0 = .int .i64 0 ∧ 2 = 2 ∨ l = rs ∧ Value.int .i64 0 = .int .i64 1 ∧ 2 = 1 ∨ l = rs ∧ Value.int .i64 0 = .int .i64 2 ∧ 2 = 0) from ⟨A1,c1,[],rfl,HO.out,.inl ⟨rfl,rfl,rfl⟩⟩)
   clear e0 e1
   go_loopg [6,27] 2 (fun gk nv iv wx=>Fr noB w wx ∧ ∃ (A2:Option Addr) (c2:Nat) (l:List SlW),nv = .slice A2 l.length c2 ∧ OwnC codB w wx A2 c2 l ∧ (l = [] ∧ iv = .int .i64 0 ∧ gk = 2 ∨ l = rs ∧ iv = .int .i64 1 ∧ gk = 1 ∨ l = rs ∧ iv = .int .i64 2 ∧ gk = 0))
   case atStart=>exact ⟨HF.out,H0.out⟩
   case round =>
    clear H0 HO HF
    obtain ⟨hf,A2,c2,l,rfl,ho,hcase⟩:=hrel
    have HF:=Lib.hid hf
    have HO:=Lib.hid ho
    have hb:=HB.out.fr hf (by simp [noB])
    have e0:wr.cell? ⟨B,0,none⟩ = some (.slice A rs.length c):=hb.cell 0
    have e1:wr.cell? ⟨B,1,none⟩ = some (.slice none 0 0):=hb.cell 1
    clear hf ho hb
    obtain ⟨rfl,rfl,rfl⟩ | ⟨rfl,rfl,rfl⟩ | ⟨rfl,rfl,rfl⟩:=hcase
    ·go_wp2_with (at_builtin;refine wpList_appC' etB w _ rfl _ _ rfl A2 0 c2 [] rfl rfl HO.out A rs.length c rs rfl (HS.out.fr0 HF.out) rfl (by have:=HN.out;simp;omega) HF.out.size ?_;intro A8 c8 w8 hc8 hmx8 ho8 hg8 hA8;rw [List.nil_append] at ho8 ⊢;have HO8:=Lib.hid ho8;have HF8:=Lib.hid (Fr.own' HF.out HO.out hg8);clear hc8 hmx8 hg8 hA8 ho8)
     go_roundg 1
     case measure=>omega
     case rel=>exact ⟨HF8.out,A8,c8,rs,rfl,HO8.out,.inr (.inl ⟨rfl,rfl,rfl⟩)⟩
    ·go_wp2_with (at_builtin;refine wpList_appC' etB w _ rfl _ _ rfl A2 l.length c2 l rfl rfl HO.out none 0 0 [] rfl (Sl.nil _ _) rfl (by have:=HN.out;simp;omega) HF.out.size ?_;intro A8 c8 w8 hc8 hmx8 ho8 hg8 hA8;rw [List.append_nil] at ho8 ⊢;have HO8:=Lib.hid ho8;have HF8:=Lib.hid (Fr.own' HF.out HO.out hg8);clear hc8 hmx8 hg8 hA8 ho8)
     go_roundg 0
     case measure=>omega
     case rel=>exact ⟨HF8.out,A8,c8,l,rfl,HO8.out,.inr (.inr ⟨rfl,rfl,rfl⟩)⟩
    ·go_wp2_with fail
     go_ret
     exact ⟨A2,c2,rfl,HO.out,HF.out⟩
end Go.Proofs.Ytahllkifmmjbdaa
