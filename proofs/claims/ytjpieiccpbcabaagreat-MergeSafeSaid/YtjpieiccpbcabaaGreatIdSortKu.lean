/- Appends to rows of IDs, and rows made shorter. Contract: reach. DERIVED: THE SHELF's CONTRACTS AT THIS DUMP,IN PLAIN WORDS (tools/lay-plain.mjs out of 'TryzShelf.lean',which tools/lay-shelf.mjs wrote): THE SAME DECLARATIONS UNDER THE SAME NAMES: 'import','namespace','open','def','theorem' AND NOTHING ELSE: no command of the shelf's: FOR A HAND-IN. Each laying: the table of numbers ('.._ren') and one theorem,a field a fact of the dump's own or the kernel's comparison;each contract: ONE APPLICATION. Rows of IDs sorted by slices.SortFunc; the order of IDs. -/
import Derived.Test.YtjpieiccpbcabaaGreatDagW3Ku
import Derived.Test.YtjpieiccpbcabaaGreatBasePKu
import Derived.Shelf.SlGeneric
import Derived.Ground.SlsfProg
import Derived.Ground.SlgcProg
import Derived.Shelf.SlicesG.Cmp
import Derived.Shelf.SlSortCmp.NoneTotal
import Derived.Test.YtjpieiccpbcabaaGreatProg
set_option linter.unusedVariables false
set_option linter.unusedSimpArgs false
namespace Go.Proofs.YtjpieiccpbcabaaGreat
open Go.RowKit
theorem own_idc {w:World} {base:Nat} {n:Nat} {v:Value} {l:List ID} (h:w.ownsRow base 24 32 v n (idc l)):w.ownsRow base 24 32 v l.length (idc l):=by
 have hn:n = l.length:=by have:=h.1;rw [idc_length] at this;omega
 subst hn;exact h
theorem ownBlock_sl (A:Option Addr) (n c:Nat):(Value.slice A n c).ownBlock = A.map (·.block):=by cases A <;> rfl
theorem own_init {w:World} {base:Nat} {A:Option Addr} {c:Nat} {l:List ID} {x:ID} (h:w.ownsRow base 24 32 (.slice A (l ++ [x]).length c) (l ++ [x]).length (idc (l ++ [x]))) :
  w.ownsRow base 24 32 (.slice A l.length c) l.length (idc l):=by
 refine ⟨idc_length l,?_⟩
 rcases h.2 with ⟨_,h0⟩ | ⟨g,cap,cur,hv,hb,hg,hnc,hm,hs,ht⟩
 ·simp at h0
 ·injection hv with h1 h2 h3
  subst h1;subst h3
  refine .inr ⟨g,c,cur,rfl,hb,hg,by simp at hnc;omega,hm,hs,?_⟩
  rw [idc_append] at ht
  have e:=congrArg (List.take (l.length * 32)) ht
  rw [List.take_take,List.take_left' (idc_length l)] at e
  rw [← e]
  congr 1
  simp
theorem step_run {P:Program} {w:World} {ops:Array Oper} {o:Oper} {a:Act} {K:Act → World → Prop} {Q:Exit → Act → World → Prop} {E:Prop} (hgd:o.guard = none) (v:Value) (w':World)
  (hr:(execOp a.eval o).run P w = .ok (.value v) w') (h:K (a.put o.dst v) w'):if Region.wanted o (yielded ops a.tmps) = true then Oper.wp P o a w K Q else E:=by
 have hw:Region.wanted o (yielded ops a.tmps) = true:=by simp [Region.wanted,hgd]
 rw [if_pos hw]
 unfold Oper.wp
 rw [hr]
 exact h
theorem ex_bs1_at {ρ:Operand → Value} {o:Oper} {a:Operand} {w:World} {x:ID} (ho:o.op = .buildSlice 32 1 #[(0,a)]) (ha:ρ a = encI x):(execOp ρ o).run Tryz.prog w = .ok (.value (.slice (some ⟨w.heap.size,0,none⟩) 1 1)) (w.alloc (rowo [x])):=by
 obtain ⟨d,op,t,p,f,g⟩:=o
 simp only at ho
 subst ho
 rw [ex_bs1,ha,bsI1_at]
section
variable (w0 w:World)
theorem wpList_appD {ops:Array Oper} {rest:List Oper} {o:Oper} {a:Act} {Q:Exit → Act → World → Prop} (hgd:o.guard = none) (s x:Operand)
  (ho:o.op = .call { callee:=.builtin .append,args:=#[s,x],argTypes:=#[32,32] })
  (As:Option Addr) (ns cs:Nat) (lo:List ID) (hs:a.eval s = .slice As ns cs) (hns:lo.length = ns) (hown:OwnD w0 w As cs lo)
  (A:Option Addr) (m c:Nat) (news:List ID) (hx:a.eval x = .slice A m c) (hr:Sl w A (idc news)) (hl:news.length = m)
  (hbytes:lo.length + news.length ≤ 1000000000000) (hbase:w0.heap.size ≤ w.heap.size)
  (h:∀ A' c' w',(lo ++ news).length ≤ c' → c' ≤ maxLen → OwnD w0 w' A' c' (lo ++ news) → w.grownBy w' (As.map (·.block)) →
   (A'.map (·.block) = As.map (·.block) ∨ A'.map (·.block) = some w.heap.size) → wpList Tryz.prog ops Q rest (a.put o.dst (.slice A' (lo ++ news).length c')) w') :
  wpList Tryz.prog ops Q (o :: rest) a w:=by
 subst hns
 refine wpList_app w etIDs hgd s x ho w0.heap.size _ lo.length (idc lo) hs hown A m c (idc news) hx hr (by rw [idc_length,hl]) (idc_one _) (by rw [← hl];omega) hbase ?_
 intro v' w' h1 h2 h3
 rw [← idc_append] at h1
 have h1':=own_idc h1
 obtain ⟨A',c',rfl,hc1,hc2⟩:=own_form h1'
 rw [ownBlock_sl,ownBlock_sl] at h3
 rw [ownBlock_sl] at h2
 exact h A' c' w' hc1 hc2 h1' h2 h3
theorem step_appD {ops:Array Oper} {o:Oper} {a:Act} {K:Act → World → Prop} {Q:Exit → Act → World → Prop} {E:Prop} (hgd:o.guard = none) (s x:Operand)
  (ho:o.op = .call { callee:=.builtin .append,args:=#[s,x],argTypes:=#[32,32] })
  (As:Option Addr) (ns cs:Nat) (lo:List ID) (hs:a.eval s = .slice As ns cs) (hns:lo.length = ns) (hown:OwnD w0 w As cs lo)
  (A:Option Addr) (m c:Nat) (news:List ID) (hx:a.eval x = .slice A m c) (hr:Sl w A (idc news)) (hl:news.length = m)
  (hbytes:lo.length + news.length ≤ 1000000000000) (hbase:w0.heap.size ≤ w.heap.size)
  (h:∀ A' c' w',(lo ++ news).length ≤ c' → c' ≤ maxLen → OwnD w0 w' A' c' (lo ++ news) → w.grownBy w' (As.map (·.block)) →
   (A'.map (·.block) = As.map (·.block) ∨ A'.map (·.block) = some w.heap.size) → K (a.put o.dst (.slice A' (lo ++ news).length c')) w') :
  if Region.wanted o (yielded ops a.tmps) = true then Oper.wp Tryz.prog o a w K Q else E:=by
 have hw:Region.wanted o (yielded ops a.tmps) = true:=by simp [Region.wanted,hgd]
 rw [if_pos hw]
 subst hns
 refine wp_app w etIDs s x ho w0.heap.size _ lo.length (idc lo) hs hown A m c (idc news) hx hr (by rw [idc_length,hl]) (idc_one _) (by rw [← hl];omega) hbase ?_
 intro v' w' h1 h2 h3
 rw [← idc_append] at h1
 have h1':=own_idc h1
 obtain ⟨A',c',rfl,hc1,hc2⟩:=own_form h1'
 rw [ownBlock_sl,ownBlock_sl] at h3
 rw [ownBlock_sl] at h2
 exact h A' c' w' hc1 hc2 h1' h2 h3
end
end Go.Proofs.YtjpieiccpbcabaaGreat
namespace Go.Proofs.YtjpieiccpbcabaaGreat
open Go.RowKit Go.Maps Go.Sort
def NewSet (w:World) (S:ID → Prop) (e:Ending) (w':World):Prop:=∃ R l,e = .returned (.map (some R)) ∧ mpI w' R = some (setV l) ∧ (∀ y,y ∈ l ↔ S y) ∧ w.heap.size ≤ R ∧ Fr noB w w'
def ReaR (G:Dg) (ids:List ID) (w:World) (gk:Nat) (iv:Value) (wr:World):Prop :=
 ∃ met todo A c,iv = .slice A todo.length c ∧ gk = 3 * (G.length - met.length) + todo.length ∧ Found G ids met todo ∧ OwnD w wr A c todo ∧ mpI wr w.heap.size = some (setV met) ∧ Fr noB w wr ∧ w.heap.size < wr.heap.size
theorem look_set (l:List ID) (x:ID):(look (setV l) x).getD (.bool false) = .bool (decide (x ∈ l)):=by
 rw [look_setV]
 split <;> simp_all
set_option maxRecDepth 100000 in
set_option maxHeartbeats 2000000 in
theorem reach_any (w:World) (D:Nat) (F:Nat → Prop) (G:Dg) (h:DagAt w D F G) (P:Option Addr) (c n:Nat) (ids:List ID) (hn:ids.length = n) (hs:Sl w P (idc ids)) (hb:ids.length ≤ 1000000000) :
  Calls Tryz.prog 57 #[.pointer (some ⟨D,0,none⟩),.slice P n c] w (NewSet w (Reached G ids)):=by
 subst hn
 have F1:Fr noB w (w.alloc (.map #[] 0)):=(Fr.refl noB w).alloc _
 have hG:=h
 obtain ⟨A,K,kv,ks,h⟩:=h
 go_enter Tryz.func57,Tryz.ntmps57
 go_wp2_with fail
 go_at_call 63
 refine (idclone_any _ P c ids _ rfl (hs.fr0 F1) (by omega)).mono ?_
 rintro e w2 ⟨A2,c2,rfl,ho2,hf2⟩
 have F2:=F1.step0 hf2
 have m2:mpI w2 w.heap.size = some []:=mpI_fr (mpI_new w) hf2 (by simp [noB])
 go_wp2_with fail
 go_loopg [6] (3 * G.length + ids.length) (fun gk iv wr=>ReaR G ids w gk iv wr)
 case atStart=>exact ⟨[],ids,A2,c2,rfl,by simp,Found.start G ids,own_base ho2 (by simp),m2,F2,mpI_lt m2⟩
 case round =>
  obtain ⟨met,todo,Ar,cr,rfl,rfl,hfd,hor,hmr,hfr,hwr⟩:=hrel
  rcases List.eq_nil_or_concat todo with rfl | ⟨l,x,rfl⟩
  ·have HD:=Lib.hid (hfd.done h.ok)
   have HM:=Lib.hid hmr
   clear hfd hmr
   go_wp2
   go_ret
   exact ⟨w.heap.size,met,rfl,HM.out,HD.out,Nat.le_refl _,hfr⟩
  ·rw [List.concat_eq_append] at *
   obtain ⟨g,off,rfl⟩:=(Sl.own hor).adG (by simp)
   have r1:rdI wr g (off + l.length * 32) = some x:=by
    have:=(Sl.own hor).id l.length (by simp)
    simpa using this
   have hoi:=own_init hor
   have hln:(l ++ [x]).length = l.length + 1:=by simp
   have hml:=nd_len hfd.nd hfd.has
   have hlen:=hfd.len
   have HFD:=Lib.hid hfd
   clear hfd hor
   rw [hln]
   rw [hln] at hlen
   have i1:(l.length:Int) < ((l.length + 1:Nat):Int):=by omega
   have i2:((l.length + 1:Nat):Int) - 1 = l.length:=by omega
   have p0:(0:Int) ≤ (l.length:Int):=by omega
   have hle:=h.le
   have hwz:wrap64 (l.length:Int) = l.length:=by unfold wrap64;omega
   have mx:mpI (wr.alloc (ido x)) w.heap.size = some (setV met):=by rw [mpI_old _ _ _ hwr];exact hmr
   have lks:=look_set met x
   have rx:rdI (wr.alloc (ido x)) wr.heap.size 0 = some x:=rdI_new wr x
   have F3:Fr noB w (wr.alloc (ido x)):=hfr.alloc _
   have ho3:OwnD w (wr.alloc (ido x)) (some ⟨g,off,none⟩) cr l:=own_fr hoi ((Fr.refl noB wr).alloc _) (fun _ _=>by simp [noB])
   have lc:l.length ≤ cr:=by
    rcases hoi.2 with ⟨hv,_⟩ | ⟨g',cap,cur,hv,_,_,hnc,_⟩
    ·cases hv
    ·injection hv with _ _ h3;omega
   by_cases hm:x ∈ met
   ·have hd:decide (x ∈ met) = true:=by simp [hm]
    have HM:=Lib.hid hm
    clear hm
    rw [hd] at lks
    go_wp2
    go_roundg (3 * (G.length - met.length) + l.length)
    case measure=>omega
    case rel=>exact ⟨met,l,_,cr,rfl,rfl,HFD.out.skip (.inl HM.out) h.ok,ho3,mx,F3,by simp;omega⟩
   ·have hd:decide (x ∈ met) = false:=by simp [hm]
    have HM:=Lib.hid hm
    clear hm
    rw [hd] at lks
    go_wp2_with fail
    go_at_call 32
    refine (has_any _ D F G (hG.fr0 F3) x).mono ?_
    rintro e w4 ⟨rfl,hf4⟩
    have F4:=F3.step0 hf4
    have ho4:OwnD w w4 (some ⟨g,off,none⟩) cr l:=own_fr ho3 hf4 (fun _ _=>by simp [noB])
    have mx4:=mpI_fr mx hf4 (by simp [noB])
    have rx4:=rdI_fr rx (by simp) hf4 (by simp [noB])
    cases hx:hasG G x with
    | false =>
     go_wp2
     go_roundg (3 * (G.length - met.length) + l.length)
     case measure=>omega
     case rel=>exact ⟨met,l,_,cr,rfl,rfl,HFD.out.skip (.inr hx) h.ok,ho4,mx4,F4,by have:=hf4.size;simp at this;omega⟩
    | true =>
     cases hp:parents G x with
     | none=>simp [hasG,hp] at hx
     | some ps =>
     obtain ⟨u1,u2,u3,u4⟩:=mput_all Tryz.underlying102 mx4 x (.bool true)
     have fu:Fr noB w (mput 102 w4 w.heap.size x (.bool true)):=F4.step1 u3 (Nat.le_refl _)
     have h5:=h.fr0 fu.drew
     have rx5:rdI (mput 102 w4 w.heap.size x (.bool true)).drew wr.heap.size 0 = some x:=by rw [rdI_drew];exact rdI_fr rx4 (rdI_lt rx4) u3 (fun e=>rdI_ne rx4 mx4 e)
     obtain ⟨B,cB,hn,hB,hBF⟩:=h.node x
     rw [hp] at hn hB
     simp only [Option.getD_some] at hn hB
     have hq:=okG_par h.ok hp
     go_wp2_with fail
     refine wp_region_N 9 (fun w'=>w'.cell? ⟨D,0,none⟩ = some (.map (some A)) ∧ mpI w' A = some kv ∧ rdI w' wr.heap.size 0 = some x) (by kernel_rfl) (by kernel_rfl) ⟨h5.c0,h5.all,rx5⟩ (fun hA hF=>?_)
     refine wpAnyN_take (i:=0) (v:=?_) hA rfl (by decide) (by kernel_rfl) (by kernel_rfl) (fun _ _ _ h=>h) (Or.inl ⟨by rfl,?_⟩) hF (fun hA=>?_)
     rotate_left
     ·intro wS hSw;(try dsimp only at hSw);obtain ⟨s1,s2,s3⟩:=hSw;first | (apply Eq.trans;apply ex_ld_id;exact rfl;exact rfl;assumption;with_reducible rfl) | (go_simp;try with_reducible rfl)
     try simp only [sA1,sA2,sA3,Act.put,sA4,sA5,sA6]
     refine wpAnyN_take (i:=1) (v:=?_) hA rfl (by decide) (by kernel_rfl) (by kernel_rfl) (fun _ _ _ h=>h) (Or.inl ⟨by rfl,?_⟩) hF (fun hA=>?_)
     rotate_left
     ·intro wS hSw;(try dsimp only at hSw);obtain ⟨s1,s2,s3⟩:=hSw;first | (apply Eq.trans;apply ex_ld_id;exact rfl;exact rfl;assumption;with_reducible rfl) | (go_simp;try with_reducible rfl)
     try simp only [sA1,sA2,sA3,Act.put,sA4,sA5,sA6]
     refine wpAnyN_take (i:=2) (v:=?_) hA rfl (by decide) (by kernel_rfl) (by kernel_rfl) (fun _ _ _ h=>h) (Or.inl ⟨by rfl,?_⟩) hF (fun hA=>?_)
     rotate_left
     ·intro wS hSw;(try dsimp only at hSw);obtain ⟨s1,s2,s3⟩:=hSw;first | (apply Eq.trans;apply ex_ld_id;exact rfl;exact rfl;assumption;with_reducible rfl) | (go_simp;try with_reducible rfl)
     try simp only [sA1,sA2,sA3,Act.put,sA4,sA5,sA6]
     refine wpAnyN_take (i:=3) (v:=?_) hA rfl (by decide) (by kernel_rfl) (by kernel_rfl) (fun _ _ _ h=>h) (Or.inl ⟨by rfl,?_⟩) hF (fun hA=>?_)
     rotate_left
     ·intro wS hSw;(try dsimp only at hSw);obtain ⟨s1,s2,s3⟩:=hSw;first | (apply Eq.trans;apply ex_ld_id;exact rfl;exact rfl;assumption;with_reducible rfl) | (go_simp;try with_reducible rfl)
     try simp only [sA1,sA2,sA3,Act.put,sA4,sA5,sA6]
     refine wpAnyN_take (i:=4) (v:=?_) hA rfl (by decide) (by kernel_rfl) (by kernel_rfl) (fun _ _ _ h=>h) (Or.inl ⟨by rfl,?_⟩) hF (fun hA=>?_)
     rotate_left
     ·intro wS hSw;(try dsimp only at hSw);obtain ⟨s1,s2,s3⟩:=hSw;first | (apply Eq.trans;apply ex_ld_id;exact rfl;exact rfl;assumption;with_reducible rfl) | (go_simp;try with_reducible rfl)
     try simp only [sA1,sA2,sA3,Act.put,sA4,sA5,sA6]
     refine wpAnyN_take (i:=5) (v:=?_) hA rfl (by decide) (by kernel_rfl) (by kernel_rfl) (fun _ _ _ h=>h) (Or.inl ⟨by rfl,?_⟩) hF (fun hA=>?_)
     rotate_left
     ·intro wS hSw;(try dsimp only at hSw);obtain ⟨s1,s2,s3⟩:=hSw;first | (apply Eq.trans;apply ex_ld_id;exact rfl;exact rfl;assumption;with_reducible rfl) | (go_simp;try with_reducible rfl)
     try simp only [sA1,sA2,sA3,Act.put,sA4,sA5,sA6]
     refine wpAnyN_take (i:=6) (v:=?_) hA rfl (by decide) (by kernel_rfl) (by kernel_rfl) (fun _ _ _ h=>h) (Or.inl ⟨by rfl,?_⟩) hF (fun hA=>?_)
     rotate_left
     ·intro wS hSw;(try dsimp only at hSw);obtain ⟨s1,s2,s3⟩:=hSw;first | (apply Eq.trans;apply ex_ld_id;exact rfl;exact rfl;assumption;with_reducible rfl) | (go_simp;try with_reducible rfl)
     try simp only [sA1,sA2,sA3,Act.put,sA4,sA5,sA6]
     refine wpAnyN_take (i:=7) (v:=?_) hA rfl (by decide) (by kernel_rfl) (by kernel_rfl) (fun _ _ _ h=>h) (Or.inl ⟨by rfl,?_⟩) hF (fun hA=>?_)
     rotate_left
     ·intro wS hSw;(try dsimp only at hSw);obtain ⟨s1,s2,s3⟩:=hSw;first | (apply Eq.trans;apply ex_ld_id;exact rfl;exact rfl;assumption;with_reducible rfl) | (go_simp;try with_reducible rfl)
     try simp only [sA1,sA2,sA3,Act.put,sA4,sA5,sA6]
     refine wpAnyN_one (i:=8) hA (by kernel_rfl) (by decide) rfl (fun K' hK=>?_)
     have ho5:OwnD w (mput 102 w4 w.heap.size x (.bool true)).drew (some ⟨g,off,none⟩) cr l:=own_fr ho4 u3.drew (by
      intro b hb e
      rcases ho4.2 with ⟨hv,_⟩ | ⟨g',cap,cur,hv,_,hcell,_⟩
      ·cases hv
      ·injection hv with h1 _ _
       injection h1 with h1
       injection h1 with h1 h2
       have hb':b = g:=by simpa [Value.ownBlock] using hb.symm
       have e':b = w.heap.size:=e
       exact mp_ne mx4 hcell (by omega))
     refine step_appD w _ rfl _ _ rfl (some ⟨g,off,none⟩) l.length cr l rfl rfl ho5 B ps.length cB ps rfl (hB.fr0 fu.drew) rfl (by omega) fu.size ?_
     intro A6 c6 w6 hc6 hm6 ho6 hg6 hA6
     have gB:w.heap.size ≤ g ∧ g ≠ w.heap.size:=by
      rcases ho5.2 with ⟨hv,_⟩ | ⟨g',cap,cur,hv,hb1,hcell,_⟩
      ·cases hv
      ·injection hv with h1 _ _
       injection h1 with h1
       injection h1 with h1 h2
       subst h1
       exact ⟨hb1,mp_ne (w:=(mput 102 w4 w.heap.size x (.bool true)).drew) (by rw [mpI_drew];exact u2) hcell⟩
     have fg:Fr (oneB g) (mput 102 w4 w.heap.size x (.bool true)).drew w6:=Fr.ofGrown hg6 (fun b hb=>by simp at hb;exact hb.symm)
     have F6:Fr noB w w6:=fu.drew.step1 fg gB.1
     have h6:=h.fr0 F6
     refine hK.out _ _ ⟨h6.c0,h6.all,rdI_fr rx5 (rdI_lt rx5) fg (fun e=>?_)⟩ (fun hA=>?_)
     ·have:=((Off.own hoi) _ rfl).2
      have e':wr.heap.size = g:=e
      simp only at this
      omega
     clear hK K'
     refine wpAnyN_end rfl (by kernel_rfl) ?_
     simp only [List.drop_succ_cons,List.drop_zero]
     have m6:mpI w6 w.heap.size = some (setV (met ++ [x])):=by
      refine mpI_fr ?_ fg (fun e=>gB.2 e.symm)
      rw [mpI_drew,u2,put_setV,if_neg HM.out]
     have hf6:=HFD.out.take HM.out hp h.ok
     have l6:=nd_len hf6.nd hf6.has
     have hln6:(met ++ [x]).length = met.length + 1:=by simp
     have hlp:(l ++ ps).length = l.length + ps.length:=by simp
     have HF6:=Lib.hid hf6
     clear hf6
     rw [hln6] at l6
     go_wp2
     go_roundg (3 * (G.length - (met ++ [x]).length) + (l ++ ps).length)
     case measure=>rw [hln6,hlp];omega
     case rel=>exact ⟨met ++ [x],l ++ ps,A6,c6,by rw [hlp],rfl,HF6.out,ho6,m6,F6,mpI_lt m6⟩
end Go.Proofs.YtjpieiccpbcabaaGreat
namespace Go.Proofs
open Go.Shelf
def Tryz.sortR_ren:Go.Shelf.Ren:=⟨fun | 6=>84 | 15=>114 | 14=>113 | 28=>150 | 29=>151 | 20=>142 | 21=>143 | 22=>144 | 23=>145 | 24=>146 | 25=>147 | 26=>148 | 27=>149 | 46=>167 | 47=>168 | 48=>169 | 49=>170 | 50=>171 | 57=>177 | n=>n,fun | 22=>55 | 24=>110 | 25=>158 | 3=>3 | 39=>188 | 0=>0 | 53=>218 | 55=>199 | 4=>4 | 46=>211 | 45=>210 | 50=>215 | 5=>5 | 9=>9 | 66=>228 | 70=>232 | 76=>237 | 77=>238 | n=>n,fun | n=>n⟩
theorem Tryz.sortR:Go.Proofs.SlLaysF0.n6 Tryz.prog Tryz.sortR_ren:={
 mixed:=by kernel_rfl
 f6:=⟨Tryz.f84.name,by decide,Tryz.func84.trans (congrArg some (by kernel_rfl))⟩
 f14:=⟨Tryz.f113.name,by decide,Tryz.func113.trans (congrArg some (by kernel_rfl))⟩
 f15:=Tryz.func114.trans (congrArg some (by kernel_rfl))
 f20:=⟨Tryz.f142.name,by decide,Tryz.func142.trans (congrArg some (by kernel_rfl))⟩
 f21:=⟨Tryz.f143.name,by decide,Tryz.func143.trans (congrArg some (by kernel_rfl))⟩
 f22:=⟨Tryz.f144.name,by decide,Tryz.func144.trans (congrArg some (by kernel_rfl))⟩
 f23:=⟨Tryz.f145.name,by decide,Tryz.func145.trans (congrArg some (by kernel_rfl))⟩
 f24:=⟨Tryz.f146.name,by decide,Tryz.func146.trans (congrArg some (by kernel_rfl))⟩
 f25:=⟨Tryz.f147.name,by decide,Tryz.func147.trans (congrArg some (by kernel_rfl))⟩
 f26:=⟨Tryz.f148.name,by decide,Tryz.func148.trans (congrArg some (by kernel_rfl))⟩
 f27:=⟨Tryz.f149.name,by decide,Tryz.func149.trans (congrArg some (by kernel_rfl))⟩
 f28:=Tryz.func150.trans (congrArg some (by kernel_rfl))
 f29:=Tryz.func151.trans (congrArg some (by kernel_rfl))
 f46:=⟨Tryz.f167.name,by decide,Tryz.func167.trans (congrArg some (by kernel_rfl))⟩
 f47:=Tryz.func168.trans (congrArg some (by kernel_rfl))
 f48:=Tryz.func169.trans (congrArg some (by kernel_rfl))
 f49:=⟨Tryz.f170.name,by decide,Tryz.func170.trans (congrArg some (by kernel_rfl))⟩
 f50:=⟨Tryz.f171.name,by decide,Tryz.func171.trans (congrArg some (by kernel_rfl))⟩
 f57:=⟨Tryz.f177.name,by decide,Tryz.func177.trans (congrArg some (by kernel_rfl))⟩
 t0:=Tryz.underlying0
 a0:=Tryz.isAgg0
 z0:=Tryz.sizeOf0
 v0:=Tryz.zeroValue0
 t3:=Tryz.underlying3
 a3:=Tryz.isAgg3
 z3:=Tryz.sizeOf3
 v3:=Tryz.zeroValue3
 t4:=Tryz.underlying4
 a4:=Tryz.isAgg4
 z4:=Tryz.sizeOf4
 v4:=Tryz.zeroValue4
 t5:=Tryz.underlying5
 a5:=Tryz.isAgg5
 z5:=Tryz.sizeOf5
 v5:=Tryz.zeroValue5
 t9:=Tryz.underlying9
 a9:=Tryz.isAgg9
 z9:=Tryz.sizeOf9
 v9:=Tryz.zeroValue9
 t22:=Tryz.underlying55
 a22:=Tryz.isAgg55
 z22:=Tryz.sizeOf55
 v22:=Tryz.zeroValue55
 t25:=Tryz.underlying158
 a25:=Tryz.isAgg158
 z25:=Tryz.sizeOf158
 v25:=Tryz.zeroValue158
 t39:=Tryz.underlying188
 a39:=Tryz.isAgg188
 z39:=Tryz.sizeOf188
 v39:=Tryz.zeroValue188
 t45:=Tryz.underlying210
 a45:=Tryz.isAgg210
 z45:=Tryz.sizeOf210
 v45:=Tryz.zeroValue210
 t46:=Tryz.underlying211
 a46:=Tryz.isAgg211
 z46:=Tryz.sizeOf211
 v46:=Tryz.zeroValue211
 t50:=Tryz.underlying215
 a50:=Tryz.isAgg215
 z50:=Tryz.sizeOf215
 v50:=Tryz.zeroValue215
 t53:=Tryz.underlying218
 a53:=Tryz.isAgg218
 z53:=Tryz.sizeOf218
 v53:=Tryz.zeroValue218
 t55:=Tryz.underlying199
 a55:=Tryz.isAgg199
 z55:=Tryz.sizeOf199
 v55:=Tryz.zeroValue199
 t66:=Tryz.underlying228
 a66:=Tryz.isAgg228
 z66:=Tryz.sizeOf228
 v66:=Tryz.zeroValue228
 t70:=Tryz.underlying232
 a70:=Tryz.isAgg232
 z70:=Tryz.sizeOf232
 v70:=Tryz.zeroValue232
 t76:=Tryz.underlying237
 a76:=Tryz.isAgg237
 z76:=Tryz.sizeOf237
 v76:=Tryz.zeroValue237
 t77:=Tryz.underlying238
 a77:=Tryz.isAgg238
 z77:=Tryz.sizeOf238
 v77:=Tryz.zeroValue238 }
def Tryz.sortI_ren:Go.Shelf.Ren:=⟨fun | 6=>87 | 15=>114 | 14=>119 | 28=>150 | 29=>151 | 20=>152 | 21=>153 | 22=>154 | 23=>155 | 24=>156 | 25=>157 | 26=>158 | 27=>159 | 46=>172 | 47=>168 | 48=>169 | 49=>173 | 50=>174 | 57=>178 | n=>n,fun | 22=>32 | 24=>24 | 25=>161 | 3=>3 | 39=>188 | 0=>0 | 53=>218 | 55=>199 | 4=>4 | 46=>211 | 45=>210 | 50=>215 | 5=>5 | 9=>9 | 66=>228 | 70=>232 | 76=>237 | 77=>238 | n=>n,fun | n=>n⟩
theorem Tryz.sortI:Go.Proofs.SlLaysF0.n6 Tryz.prog Tryz.sortI_ren:={
 mixed:=by kernel_rfl
 f6:=⟨Tryz.f87.name,by decide,Tryz.func87.trans (congrArg some (by kernel_rfl))⟩
 f14:=⟨Tryz.f119.name,by decide,Tryz.func119.trans (congrArg some (by kernel_rfl))⟩
 f15:=Tryz.func114.trans (congrArg some (by kernel_rfl))
 f20:=⟨Tryz.f152.name,by decide,Tryz.func152.trans (congrArg some (by kernel_rfl))⟩
 f21:=⟨Tryz.f153.name,by decide,Tryz.func153.trans (congrArg some (by kernel_rfl))⟩
 f22:=⟨Tryz.f154.name,by decide,Tryz.func154.trans (congrArg some (by kernel_rfl))⟩
 f23:=⟨Tryz.f155.name,by decide,Tryz.func155.trans (congrArg some (by kernel_rfl))⟩
 f24:=⟨Tryz.f156.name,by decide,Tryz.func156.trans (congrArg some (by kernel_rfl))⟩
 f25:=⟨Tryz.f157.name,by decide,Tryz.func157.trans (congrArg some (by kernel_rfl))⟩
 f26:=⟨Tryz.f158.name,by decide,Tryz.func158.trans (congrArg some (by kernel_rfl))⟩
 f27:=⟨Tryz.f159.name,by decide,Tryz.func159.trans (congrArg some (by kernel_rfl))⟩
 f28:=Tryz.func150.trans (congrArg some (by kernel_rfl))
 f29:=Tryz.func151.trans (congrArg some (by kernel_rfl))
 f46:=⟨Tryz.f172.name,by decide,Tryz.func172.trans (congrArg some (by kernel_rfl))⟩
 f47:=Tryz.func168.trans (congrArg some (by kernel_rfl))
 f48:=Tryz.func169.trans (congrArg some (by kernel_rfl))
 f49:=⟨Tryz.f173.name,by decide,Tryz.func173.trans (congrArg some (by kernel_rfl))⟩
 f50:=⟨Tryz.f174.name,by decide,Tryz.func174.trans (congrArg some (by kernel_rfl))⟩
 f57:=⟨Tryz.f178.name,by decide,Tryz.func178.trans (congrArg some (by kernel_rfl))⟩
 t0:=Tryz.underlying0
 a0:=Tryz.isAgg0
 z0:=Tryz.sizeOf0
 v0:=Tryz.zeroValue0
 t3:=Tryz.underlying3
 a3:=Tryz.isAgg3
 z3:=Tryz.sizeOf3
 v3:=Tryz.zeroValue3
 t4:=Tryz.underlying4
 a4:=Tryz.isAgg4
 z4:=Tryz.sizeOf4
 v4:=Tryz.zeroValue4
 t5:=Tryz.underlying5
 a5:=Tryz.isAgg5
 z5:=Tryz.sizeOf5
 v5:=Tryz.zeroValue5
 t9:=Tryz.underlying9
 a9:=Tryz.isAgg9
 z9:=Tryz.sizeOf9
 v9:=Tryz.zeroValue9
 t22:=Tryz.underlying32
 a22:=Tryz.isAgg32
 z22:=Tryz.sizeOf32
 v22:=Tryz.zeroValue32
 t25:=Tryz.underlying161
 a25:=Tryz.isAgg161
 z25:=Tryz.sizeOf161
 v25:=Tryz.zeroValue161
 t39:=Tryz.underlying188
 a39:=Tryz.isAgg188
 z39:=Tryz.sizeOf188
 v39:=Tryz.zeroValue188
 t45:=Tryz.underlying210
 a45:=Tryz.isAgg210
 z45:=Tryz.sizeOf210
 v45:=Tryz.zeroValue210
 t46:=Tryz.underlying211
 a46:=Tryz.isAgg211
 z46:=Tryz.sizeOf211
 v46:=Tryz.zeroValue211
 t50:=Tryz.underlying215
 a50:=Tryz.isAgg215
 z50:=Tryz.sizeOf215
 v50:=Tryz.zeroValue215
 t53:=Tryz.underlying218
 a53:=Tryz.isAgg218
 z53:=Tryz.sizeOf218
 v53:=Tryz.zeroValue218
 t55:=Tryz.underlying199
 a55:=Tryz.isAgg199
 z55:=Tryz.sizeOf199
 v55:=Tryz.zeroValue199
 t66:=Tryz.underlying228
 a66:=Tryz.isAgg228
 z66:=Tryz.sizeOf228
 v66:=Tryz.zeroValue228
 t70:=Tryz.underlying232
 a70:=Tryz.isAgg232
 z70:=Tryz.sizeOf232
 v70:=Tryz.zeroValue232
 t76:=Tryz.underlying237
 a76:=Tryz.isAgg237
 z76:=Tryz.sizeOf237
 v76:=Tryz.zeroValue237
 t77:=Tryz.underlying238
 a77:=Tryz.isAgg238
 z77:=Tryz.sizeOf238
 v77:=Tryz.zeroValue238 }
def Tryz.cmpInt_ren:Go.Shelf.Ren:=⟨fun | 5=>102 | 7=>130 | n=>n,fun | 22=>3 | 3=>3 | 4=>4 | n=>n,fun | n=>n⟩
theorem Tryz.cmpInt:Go.Proofs.SlLaysC2.n5 Tryz.prog Tryz.cmpInt_ren:={
 mixed:=by kernel_rfl
 f5:=⟨Tryz.f102.name,by decide,Tryz.func102.trans (congrArg some (by kernel_rfl))⟩
 f7:=⟨Tryz.f130.name,by decide,Tryz.func130.trans (congrArg some (by kernel_rfl))⟩
 t3:=Tryz.underlying3
 a3:=Tryz.isAgg3
 z3:=Tryz.sizeOf3
 v3:=Tryz.zeroValue3
 t4:=Tryz.underlying4
 a4:=Tryz.isAgg4
 z4:=Tryz.sizeOf4
 v4:=Tryz.zeroValue4
 t22:=Tryz.underlying3
 a22:=Tryz.isAgg3
 z22:=Tryz.sizeOf3
 v22:=Tryz.zeroValue3 }
end Go.Proofs
namespace Go.Proofs.YtjpieiccpbcabaaGreat
open Go.RowKit Go.Maps Go.Sort Go.Shelf
theorem cbD_anti (a b:List UInt8):Lib.compareBytes a b = - Lib.compareBytes b a:=by
 induction a generalizing b with
 | nil=>cases b <;> simp [Lib.compareBytes]
 | cons x a ih=>cases b with
  | nil=>simp [Lib.compareBytes]
  | cons y b =>
   simp only [Lib.compareBytes]
   rcases Nat.lt_trichotomy x.toNat y.toNat with h | h | h
   ·have h1:x < y:=UInt8.lt_iff_toNat_lt.2 h
    have h2:¬ y < x:=fun h'=>by have:=UInt8.lt_iff_toNat_lt.1 h';omega
    simp [h1,h2]
   ·have h1:¬ x < y:=fun h'=>by have:=UInt8.lt_iff_toNat_lt.1 h';omega
    have h2:¬ y < x:=fun h'=>by have:=UInt8.lt_iff_toNat_lt.1 h';omega
    simp [h1,h2,ih b]
   ·have h1:¬ x < y:=fun h'=>by have:=UInt8.lt_iff_toNat_lt.1 h';omega
    have h2:y < x:=UInt8.lt_iff_toNat_lt.2 h
    simp [h1,h2]
theorem cbD_eq (a b:List UInt8):Lib.compareBytes a b = 0 ↔ a = b:=by
 induction a generalizing b with
 | nil=>cases b <;> simp [Lib.compareBytes]
 | cons x a ih=>cases b with
  | nil=>simp [Lib.compareBytes]
  | cons y b =>
   simp only [Lib.compareBytes]
   rcases Nat.lt_trichotomy x.toNat y.toNat with h | h | h
   ·have h1:x < y:=UInt8.lt_iff_toNat_lt.2 h
    have h2:x ≠ y:=by rintro rfl;omega
    simp [h1,h2]
   ·have h1:¬ x < y:=fun h'=>by have:=UInt8.lt_iff_toNat_lt.1 h';omega
    have h2:¬ y < x:=fun h'=>by have:=UInt8.lt_iff_toNat_lt.1 h';omega
    have h3:x = y:=UInt8.toNat_inj.1 h
    simp [h1,h2,h3,ih b]
   ·have h1:¬ x < y:=fun h'=>by have:=UInt8.lt_iff_toNat_lt.1 h';omega
    have h2:y < x:=UInt8.lt_iff_toNat_lt.2 h
    have h3:x ≠ y:=by rintro rfl;omega
    simp [h1,h2,h3]
theorem cbD_trans (a b c:List UInt8) (h:Lib.compareBytes a b < 0) (h':Lib.compareBytes b c < 0):Lib.compareBytes a c < 0:=by
 induction a generalizing b c with
 | nil=>cases c with
  | nil=>cases b <;> simp [Lib.compareBytes] at h'
  | cons z c=>simp [Lib.compareBytes]
 | cons x a ih=>cases b with
  | nil=>simp [Lib.compareBytes] at h
  | cons y b=>cases c with
   | nil=>simp [Lib.compareBytes] at h'
   | cons z c =>
    simp only [Lib.compareBytes] at h h' ⊢
    have lt_n:∀ u v:UInt8,u < v ↔ u.toNat < v.toNat:=fun u v=>UInt8.lt_iff_toNat_lt
    simp only [lt_n] at h h' ⊢
    by_cases h1:x.toNat < y.toNat
    ·by_cases h2:y.toNat < z.toNat
     ·rw [if_pos (by omega)];decide
     ·rw [if_neg h2] at h'
      by_cases h3:z.toNat < y.toNat
      ·rw [if_pos h3] at h';exact absurd h' (by decide)
      ·rw [if_pos (by omega)];decide
    ·rw [if_neg h1] at h
     by_cases h2:y.toNat < x.toNat
     ·rw [if_pos h2] at h;exact absurd h (by decide)
     ·rw [if_neg h2] at h
      by_cases h3:y.toNat < z.toNat
      ·rw [if_pos (by omega)];decide
      ·rw [if_neg h3] at h'
       by_cases h4:z.toNat < y.toNat
       ·rw [if_pos h4] at h';exact absurd h' (by decide)
       ·rw [if_neg h4] at h'
        rw [if_neg (by omega),if_neg (by omega)]
        exact ih b c h h'
theorem cmpD_eq (x y:ID):cmpI x y = 0 ↔ x = y:=by
 unfold cmpI
 rw [cbD_eq]
 exact ⟨fun h=>Subtype.ext h,fun h=>congrArg Subtype.val h⟩
theorem cmpD_anti (x y:ID):cmpI x y = - cmpI y x:=cbD_anti _ _
theorem cmpD_trans {x y z:ID} (h:cmpI x y < 0) (h':cmpI y z < 0):cmpI x z < 0:=cbD_trans _ _ _ h h'
theorem cmpD_self (x:ID):cmpI x x = 0:=(cmpD_eq x x).2 rfl
theorem lt_cmpI (x y:ID):ltOf cmpI x y = decide (cmpI x y < 0):=rfl
theorem swoI:SWO (ltOf cmpI) where
 irrefl x:=by simp [lt_cmpI,cmpD_self]
 trans x y z h1 h2:=by
  simp only [lt_cmpI,decide_eq_true_eq] at *
  exact cmpD_trans h1 h2
 ntrans x y z h1 h2:=by
  simp only [lt_cmpI,decide_eq_false_iff_not] at *
  intro h
  have e1:=cmpD_anti x y
  have e2:=cmpD_anti y z
  rcases Int.lt_trichotomy (cmpI y x) 0 with h3 | h3 | h3
  ·exact h2 (cmpD_trans h3 h)
  ·have:=(cmpD_eq y x).1 h3;subst this;exact h2 h
  ·omega
theorem totI:∀ x y,(ltOf cmpI) x y = false → (ltOf cmpI) y x = false → x = y:=by
 intro x y h1 h2
 simp only [lt_cmpI,decide_eq_false_iff_not] at *
 have:=cmpD_anti x y
 exact (cmpD_eq x y).1 (by omega)
def encSI (x:ID):List Value:=bv x.1
theorem flat_idc (l:List ID):flatK encSI 32 l.toArray = (idc l).toArray:=by
 apply Array.ext_getElem?
 intro t
 by_cases ht:t < l.length * 32
 ·have hi:t / 32 < l.length:=by omega
  have hj:t % 32 < 32:=Nat.mod_lt _ (by decide)
  have e1:(bv (l[t / 32]).1)[t % 32]? = some ((bv (l[t / 32]).1)[t % 32]'(by simp [(l[t / 32]).2];exact hj)):=List.getElem?_eq_getElem _
  have e2:=idc_get l (t / 32) (t % 32) hi _ e1
  rw [show t / 32 * 32 + t % 32 = t by omega] at e2
  have e3:(idc l).toArray[t]? = _:=(List.getElem?_toArray ..).trans e2
  rw [e3]
  have h3:t < (flatK encSI 32 l.toArray).size:=by simpa using ht
  rw [Array.getElem?_eq_getElem h3]
  congr 1
  have:=get_flatK encSI 32 l.toArray t (by simpa using ht)
  rw [getElem!_pos _ t h3] at this
  rw [this]
  simp [encSI,hi,(l[t / 32]).2,hj]
 ·rw [Array.getElem?_eq_none (by simpa using ht),Array.getElem?_eq_none (by simp [idc_length];omega)]
def sortBy (cf:ID → ID → Int) (l:List ID):List ID:=l.mergeSort fun x y=>!(ltOf cf) y x
theorem sortBy_length (cf:ID → ID → Int) (l:List ID):(sortBy cf l).length = l.length:=List.length_mergeSort l
theorem sortBy_perm (cf:ID → ID → Int) (l:List ID):(sortBy cf l).Perm l:=List.mergeSort_perm l _
theorem putCells_idc (cur:Array Value) (l:List ID) (n:Nat) (hn:n = l.length * 32) (h:l.length * 32 ≤ cur.size):(putCells id 0 (idc l).toArray cur).toList.take n = idc l:=by
 subst hn
 have hl:=idc_length l
 apply List.ext_getElem?
 intro j
 by_cases hj:j < l.length * 32
 ·rw [List.getElem?_take_of_lt hj,Array.getElem?_toList]
  simp [putCells,hl,hj,show j < cur.size by omega]
 ·rw [List.getElem?_take_eq_none (by omega),List.getElem?_eq_none (by omega)]
theorem sort_any (w0 w:World) (A:Option Addr) (c n:Nat) (l:List ID) (hn:l.length = n) (ho:OwnD w0 w A c l) (hl:l.length ≤ 1000000000000) (g:Nat) (cb:Array Value) (cf:ID → ID → Int) (hO:SWO (ltOf cf)) (hT:∀ x y,(ltOf cf) x y = false → (ltOf cf) y x = false → x = y)
  (eg:∀ args w,(callFunc g args).run Tryz.prog w = .ok (.enter g args) w) (hcmp:∀ blk,A = some ⟨blk,0,none⟩ → blk < w.heap.size → CmpLays Tryz.prog g cb encSI 32 cf blk 0 l.length w) :
  Calls Tryz.prog 87 #[.slice A n c,.func (.func g) #[] cb] w fun e w'=>e = .returned (.tuple #[]) ∧ OwnD w0 w' A c (sortBy cf l) ∧ Fr (fun b=>A.map (·.block) = some b) w w':=by
 subst hn
 by_cases h0:l = []
 ·subst h0
  refine (AnyF.slices_SortFunc_none Tryz.sortI A c _ w).mono ?_
  rintro e w' ⟨rfl,rfl⟩
  exact ⟨rfl,by simpa [sortBy] using ho,Fr.refl _ _⟩
 ·have hlen:0 < l.length:=List.length_pos_iff.2 h0
  have ho':=ho
  rcases ho'.2 with ⟨hv,h00⟩ | ⟨blk,cap,cur,hv,hb,hg,hnc,hm,hs,ht⟩
  ·omega
  ·injection hv with h1 _ h3
   subst h1;subst h3
   have hblk:blk < w.heap.size:=(Array.getElem?_eq_some_iff.1 hg).1
   have hH:HoldsK encSI 32 w blk 0 l.toArray:=by
    unfold HoldsK
    rw [flat_idc]
    intro j hj
    have hj':j < (idc l).length:=by simpa using hj
    refine ⟨?_,by simp [World.frozen?,hg]⟩
    have:=(Sl.own ho) (by intro h;rw [h] at hj';simp at hj')
    obtain ⟨g',off',e,_,hc⟩:=this
    injection e with e
    injection e with e1 e2
    subst e1;subst e2
    rw [hc j _ (List.getElem?_eq_getElem hj')]
    simp [hj']
   have hS:=AnyQ.slices_SortFunc_total Tryz.sortI 32 Tryz.isAgg24 sizeID encSI (fun x=>by simp [encSI,x.2]) (fun x v hv=>bv_one _ v hv) cf hO g cb blk 0 c l.toArray w eg (by simpa using hcmp blk rfl hblk) hH hblk (by simp;omega) hT
   change Calls Tryz.prog 87 _ _ _ at hS
   rw [List.size_toArray] at hS
   refine hS.mono ?_
   rintro e w' ⟨rfl,n,os,rfl⟩
   have hsl:(l.mergeSort fun x y=>!(ltOf cf) y x) = sortBy cf l:=rfl
   simp only [List.toList_toArray] at *
   rw [hsl]
   have hlen2:=sortBy_length cf l
   refine ⟨trivial,⟨idc_length _,.inr ⟨blk,c,putCells id 0 (idc (sortBy cf l)).toArray cur,rfl,hb,?_,by rw [hlen2];exact hnc,hm,by simp [putCells,hs],putCells_idc _ _ _ rfl (by rw [hlen2,hs];exact Nat.mul_le_mul_right 32 hnc)⟩⟩,?_⟩
   ·unfold sortWorldK putRowK
    rw [heap_grow_old _ _ (by simpa using hblk),flat_idc]
    simp [putRow,mapBlock,Sort.ahead,Array.getElem?_modify,hg,onCells]
   ·refine ⟨rfl,rfl,rfl,by simp [sortWorldK,putRowK,Sort.ahead],fun k hk hne=>?_⟩
    unfold sortWorldK putRowK
    rw [heap_grow_old _ _ (by simpa using hk)]
    have:blk ≠ k:=fun e=>hne (by simp [e])
    simp [putRow,mapBlock,Sort.ahead,Array.getElem?_modify,this]
theorem sortC_any (w0 w:World) (A:Option Addr) (c n:Nat) (l:List ID) (hn:l.length = n) (ho:OwnD w0 w A c l) (hl:l.length ≤ 1000000000000) :
  Calls Tryz.prog 87 #[.slice A n c,.func (.func 88) #[] #[]] w fun e w'=>e = .returned (.tuple #[]) ∧ OwnD w0 w' A c (sortBy cmpI l) ∧ Fr (fun b=>A.map (·.block) = some b) w w':=by
 refine sort_any w0 w A c n l hn ho hl 88 #[] cmpI swoI totI (enters_of Tryz.func88 (by kernel_rfl) rfl) (fun blk _ _ m os dk hdk x y=>?_)
 have:=cmp_any (sortWorldK encSI 32 w blk 0 m dk os) x y
 simp only [encI,idA_eq] at this
 exact this.mono (fun e w' h=>h)
end Go.Proofs.YtjpieiccpbcabaaGreat
