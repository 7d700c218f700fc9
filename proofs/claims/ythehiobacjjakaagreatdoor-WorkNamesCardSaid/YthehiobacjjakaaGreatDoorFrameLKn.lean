/- Words for the laws of work: calls of a draft with what they leave; the document's example (plain). Plain: what List answers: paths rise, and lead to their nodes. Plain: what the list of nodes of one name holds (WorkNames). Contract of law 17's alive: the document's example answers true. (ex_ldS_at) The frame of a law's proof over rows of a tree: arguments of types api.Stamp and []api.Row opened. The frame of work's laws: what the library's variables hold; arguments []Op; rows that list tables. -/
import Derived.Test.YthehiobacjjakaaGreatDoorLOpKn
import Derived.Test.YthehiobacjjakaaGreatDoorWlIKn
import Derived.Test.YthehiobacjjakaaGreatDoorLsPKn
import Derived.Test.YthehiobacjjakaaGreatDoorFrameOKn
import Derived.Test.YthehiobacjjakaaGreatDoorRowCKn
import Derived.Test.YthehiobacjjakaaGreatDoorTie
import Derived.HandedShaped
import Derived.Shelf.Vars
import Derived.LaidMore
import Derived.Lay
import Derived.SevenTiedAt
import Derived.Stop.Joined
import Derived.Lib.LaidTab
set_option linter.unusedVariables false
set_option linter.unusedSimpArgs false
namespace Go.Proofs.YthehiobacjjakaaGreatDoor
open Go.RowKit Go.Maps Go.Sort
structure LitTo (W:World) (P:Nat) (D:Dft) (z:Int) (e:Ending) (w':World):Prop where
 ret:e = .returned (.int .i64 z)
 ex:∃ d rs,Dw W w' P D d rs
 fr:Fr noB W w'
theorem lit_of {W w:World} {P:Nat} {D D':Dft} {d:DfW} {rs:List RwW} {o:Dft × Int} {z:Int} {f:FuncId} {args:Array Value} (h:Dw W w P D d rs) (F:Fr noB W w) (k:Calls Tryz.prog f args w (DoTo W w P d o)) (E:o = (D',z)) :
  Calls Tryz.prog f args w (LitTo W P D' z):=by
 subst E
 refine k.mono fun e w' ⟨h1,h2⟩=>⟨h1,?_,h2.old h F⟩
 obtain ⟨d',rs',h3,_⟩:=h2.ex
 exact ⟨d',rs',h3⟩
def RwTo (w:World) (xs:List RwP) (e:Ending) (w':World):Prop:=∃ A c rs,e = .returned (.slice A xs.length c) ∧ rs.length = xs.length ∧ OwnC codR w w' A c rs ∧ AllO RwO w' rs xs ∧ Fr noB w w'
theorem rows_call {W w:World} {P:Nat} {D:Dft} {d:DfW} {rs:List RwW} (h:Dw W w P D d rs) (ht:TreeOk D.rows):Calls Tryz.prog 17 #[.pointer (some ⟨P,0,none⟩)] w (RwTo w D.rows) :=
 (rows_any w P d h.bx rs h.n (Sl.own h.own) D.rows (RwsO_.rws h.rows) (by have:=h.rows.1;have:=ht.len;omega) (heads_small ht)).mono fun e w' ⟨A,c,rs',e1,o,a,f⟩ =>
  ⟨A,c,rs',by rw [← a.1];exact e1,a.1,o,a,f⟩
theorem list_call {w0 w:World} {A:Option Addr} {c n:Nat} {rs:List RwW} {xs:List RwP} (hn:rs.length = n) (o:OwnC codR w0 w A c rs) (a:AllO RwO w rs xs) (ht:TreeOk xs) (hT:HasT w):Calls Tryz.prog 21 #[.slice A n c] w (LiTo w xs) :=
 li_any w A c n rs xs hn (Sl.own o) (by have:=a.1;have:=ht.len;omega) (RwsO_.rws a) (heads_small ht) hT
def findD (rs:List RwP) (p:List UInt8):St × Bool:=if namesOk p && decide ((splitD p).length ≤ (walkD rs zRwP (splitD p)).2) then ((walkD rs zRwP (splitD p)).1.Node,true) else (zSt,false)
theorem find_call {W w:World} {P:Nat} {D:Dft} {d:DfW} {rs:List RwW} (h:Dw W w P D d rs) (hb:D.rows.length ≤ 100000) (hT:HasT w) (hM:HasMW w) (p:List UInt8) (hp:p.length < 4294967281) :
  Calls Tryz.prog 18 #[.pointer (some ⟨P,0,none⟩),.string (str p)] w (FdTo w (findD D.rows p)):=by
 have:=find_any w P d h.bx rs h.n (Sl.own h.own) (by have:=h.rows.1;omega) (rowsOk_link h.rows) hT hM p hp
 rw [find_link h.rows p] at this
 exact this
theorem next_call {W w:World} {P:Nat} {D:Dft} {d:DfW} {rs:List RwW} (h:Dw W w P D d rs):Calls Tryz.prog 15 #[.pointer (some ⟨P,0,none⟩)] w (Gives w (.agg (codS.A D.next))):=by
 have:=next_any w P d h.bx
 rw [h.next] at this
 exact this
theorem tree_nil:TreeOk []:=⟨by simp,(fun r h=>nomatch h),rfl,(fun r h=>nomatch h)⟩
theorem newD_nil:newD [] = []:=by unfold newD;split <;> rfl
theorem new_nil (w:World) (s:St):Calls Tryz.prog 9 #[.slice none 0 0,.agg (codS.A s)] w (NwTo w ⟨[],s⟩):=by
 have:=new_any' w none 0 0 [] [] rfl (Sl.nil _ _) (by simp) RwsIn.nil (by simp) s
 rw [newD_nil] at this
 exact this
theorem new_call (w:World) (A:Option Addr) (c n:Nat) (rs:List RwW) (xs:List RwP) (hn:rs.length = n) (hs:Sl w A (codR.row rs)) (hb:rs.length ≤ 140737488355328) (hX:RwsIn w rs xs) (hbd:∀ x ∈ xs,x.Heads.length ≤ 2932031007402) (s:St) :
  Calls Tryz.prog 9 #[.slice A n c,.agg (codS.A s)] w (NwTo w ⟨newD xs,s⟩):=new_any' w A c n rs xs hn hs hb hX hbd s
/-! the document's example -/
def id1:ID:=id2 1 0
def ra1:RwP:=⟨⟨10,1⟩,zSt,⟨10,1⟩,[97],[]⟩
def rb1:RwP:=⟨⟨11,1⟩,⟨10,1⟩,⟨11,1⟩,[98],[⟨⟨12,1⟩,id1⟩]⟩
def rb2:RwP:=⟨⟨11,1⟩,zSt,⟨13,1⟩,[99],[⟨⟨12,1⟩,id1⟩]⟩
def ra3:RwP:=⟨⟨10,1⟩,trS,⟨14,1⟩,[97],[]⟩
def dA0:Dft:=⟨[],⟨10,1⟩⟩
def dA1:Dft:=⟨[ra1,rb1],⟨13,1⟩⟩
def dA2:Dft:=⟨[ra1,rb2],⟨14,1⟩⟩
def dA3:Dft:=⟨[ra3,rb2],⟨15,1⟩⟩
theorem alv_1:putF dA0 [97,47,98] id1 = (dA1,0):=by kernel_rfl
theorem alv_2:moveF dA1 [97,47,98] [120,47,99] = (dA1,4):=by kernel_rfl
theorem alv_3:moveF dA1 [97,47,98] [99] = (dA2,0):=by kernel_rfl
theorem alv_4:putF dA2 [99,47,100] id1 = (dA2,170):=by kernel_rfl
theorem alv_5:findD dA2.rows [99] = (⟨11,1⟩,true):=by kernel_rfl
theorem alv_6:removeF dA2 [97] = (dA3,0):=by kernel_rfl
theorem alv_t1:TreeOk dA1.rows:=by
 have:=(put_ok dA0 [97,47,98] id1).tree tree_nil
 rw [alv_1] at this
 exact this
theorem alv_t2:TreeOk dA2.rows:=by
 have:=(move_ok dA1 [97,47,98] [99]).tree alv_t1
 rw [alv_3] at this
 exact this
theorem alv_t3:TreeOk dA3.rows:=by
 have:=(remove_ok dA2 [97]).tree alv_t2
 rw [alv_6] at this
 exact this
theorem alv_l2:listF dA2.rows dA2.rows.length zSt [] = [⟨[97],⟨10,1⟩,[]⟩,⟨[99],⟨11,1⟩,[⟨⟨12,1⟩,id1⟩]⟩]:=by kernel_rfl
theorem alv_l3:listF dA3.rows dA3.rows.length zSt [] = [⟨[99],⟨11,1⟩,[⟨⟨12,1⟩,id1⟩]⟩]:=by kernel_rfl
theorem perm_two {α:Type} {a b:α} {l:List α} (h:l.Perm [a,b]):l = [a,b] ∨ l = [b,a]:=by
 have hl:=h.length_eq
 match l,hl with
 | [x,y],_ =>
  have hx:x ∈ [a,b]:=h.subset (by simp)
  have h2:=h
  simp only [List.mem_cons,List.not_mem_nil,or_false] at hx
  rcases hx with rfl | rfl
  ·have:=(List.perm_cons x).1 h2
   have:=List.perm_singleton.1 this
   injection this with this
   subst this
   exact .inl rfl
  ·have h3:([x,y]:List α).Perm [x,a]:=h2.trans (List.Perm.swap x a [])
   have:=(List.perm_cons x).1 h3
   have:=List.perm_singleton.1 this
   injection this with this
   subst this
   exact .inr rfl
theorem alv_y2 {ys:List EnP} (h:LiP dA2.rows ys):ys = [⟨[97],⟨10,1⟩,[]⟩,⟨[99],⟨11,1⟩,[⟨⟨12,1⟩,id1⟩]⟩]:=by
 obtain ⟨h1,h2⟩:=h.tree alv_t2
 rw [alv_l2] at h1
 rcases perm_two h1 with e | e
 ·exact e
 ·rw [e] at h2
  have:=(List.pairwise_cons.1 h2).1 _ (List.mem_singleton.2 rfl)
  exact absurd (show cfQ (pnP ⟨[97],⟨10,1⟩,[]⟩) (pnP ⟨[99],⟨11,1⟩,[⟨⟨12,1⟩,id1⟩]⟩) < 0 from cfQ_lt.2 (.inl (by kernel_rfl))) this
theorem alv_y3 {ys:List EnP} (h:LiP dA3.rows ys):ys.length = 1:=by
 obtain ⟨h1,_⟩:=h.tree alv_t3
 rw [alv_l3] at h1
 exact h1.length_eq
end Go.Proofs.YthehiobacjjakaaGreatDoor
namespace Go.Proofs.YthehiobacjjakaaGreatDoor
theorem ways_150 {rs:List RwP} (hn:∀ r ∈ rs,nameOk r.Name = true ∧ wfS r.Node = true) {k:Nat}:∀ {p:St} {l:List (List UInt8)} {x:RwP},(l,x) ∈ waysD rs k p → ∀ s ∈ l,s.length ≤ 150:=by
 induction k with
 | zero=>intro p l x h;cases h
 | succ k ih =>
  intro p l x h
  obtain ⟨i,hi,h⟩:=ways_mem.1 h
  have hm:(kidsD rs p)[i] ∈ rs:=(List.mem_filter.1 (List.getElem_mem hi)).1
  have h0:=shownD_len (us:=kidsD rs p) (i:=i) (hn _ hm).1 (hn _ hm).2
  rcases h with ⟨rfl,rfl⟩ | ⟨l',rfl,hq⟩
  ·intro s hs
   rw [List.mem_singleton] at hs
   rw [hs]
   exact h0
  ·intro s hs
   rcases List.mem_cons.1 hs with hs | hs
   ·rw [hs]
    exact h0
   ·exact ih hq s hs
theorem joinD_len:∀ (l:List (List UInt8)),(∀ s ∈ l,s.length ≤ 150) → (joinD l).length ≤ 151 * l.length
 | [],_=>by simp [joinD]
 | [x],h=>by have:=h x (by simp);simp only [joinD,List.length_cons,List.length_nil];omega
 | x :: y :: l,h=>by
  have h1:=h x (by simp)
  have h2:=joinD_len (y :: l) (fun s hs=>h s (by simp at hs ⊢;exact .inr hs))
  show (x ++ 47 :: joinD (y :: l)).length ≤ _
  simp only [List.length_append,List.length_cons] at h2 ⊢
  omega
theorem LiP.way {xs:List RwP} {ys:List EnP} (h:LiP xs ys) (ht:TreeOk xs) {y:EnP} (hy:y ∈ ys):∃ l x,(l,x) ∈ waysD xs xs.length zSt ∧ y = ⟨joinD l,x.Node,x.Heads⟩:=by
 have h1:=(h.tree ht).1.subset hy
 unfold listF at h1
 obtain ⟨⟨l,x⟩,h2,h3⟩:=List.mem_map.1 h1
 exact ⟨l,x,h2,by rw [← h3];simp [entD]⟩
theorem LiP.plen {xs:List RwP} {ys:List EnP} (h:LiP xs ys) (ht:TreeOk xs) {y:EnP} (hy:y ∈ ys):y.Path.length ≤ 755000:=by
 obtain ⟨l,x,h1,rfl⟩:=h.way ht hy
 have h2:=joinD_len l (ways_150 (fun r hr=>⟨((rightR_iff r).1 (ht.ok r hr)).1.2.2.2.1,rightS_wf (rightR_node (ht.ok r hr))⟩) h1)
 have h3:=lev_le (ways_lev ht (lev_fixed (by decide:fixedS zSt = true)) h1)
 have h4:=ht.len
 show (joinD l).length ≤ _
 omega
theorem LiP.len {xs:List RwP} {ys:List EnP} (h:LiP xs ys) (ht:TreeOk xs):ys.length ≤ xs.length:=by
 rw [(h.tree ht).1.length_eq]
 exact listF_len ht _ (lev_fixed (by decide:fixedS zSt = true)) []
theorem LiP.paths {xs:List RwP} {ys:List EnP} (h:LiP xs ys) (ht:TreeOk xs):(ys.map (·.Path)).Nodup:=by
 have h1:=((h.tree ht).1.map (·.Path)).nodup_iff.2 (by
  unfold listF
  rw [List.map_map]
  have e:((fun x:EnP=>x.Path) ∘ entD []) = fun q:List (List UInt8) × RwP=>joinD q.1:=by
   funext q
   simp [entD]
  rw [e]
  exact ways_paths ht _)
 exact h1
theorem LiP.rise {xs:List RwP} {ys:List EnP} (h:LiP xs ys) (ht:TreeOk xs):ys.Pairwise (fun a b=>Op.bytesLess a.Path b.Path = true):=by
 have h1:=(h.tree ht).2
 have h2:=h.paths ht
 rw [List.Nodup,List.pairwise_map] at h2
 refine (h1.and h2).imp fun {a b} hab=>?_
 cases hl:Op.bytesLess a.Path b.Path with
 | true=>rfl
 | false =>
  have h3:Op.bytesLess b.Path a.Path = false:=by
   cases hb:Op.bytesLess b.Path a.Path with
   | false=>rfl
   | true=>exact absurd (cfQ_lt.2 (.inl hb)) hab.1
  exact absurd (less_tri hl h3) hab.2
end Go.Proofs.YthehiobacjjakaaGreatDoor
namespace Go.Proofs.YthehiobacjjakaaGreatDoor
open Go.RowKit
def shN (r:Int) (nm:List UInt8) (n i:Nat):List UInt8:=shownD (rowsN r nm n) i (rowN r nm i)
def enN (r:Int) (nm:List UInt8) (n i:Nat):EnP:=⟨shN r nm n i,⟨(i:Int) + 1,r⟩,[]⟩
theorem listN (r:Int) (nm:List UInt8) (n:Nat) (h:0 < n):listF (rowsN r nm n) (rowsN r nm n).length zSt [] = (List.range n).map (enN r nm n):=by
 rw [rowsN_len]
 obtain ⟨k,rfl⟩:∃ k,n = k + 1:=⟨n - 1,by omega⟩
 unfold listF
 rw [rowsN_ways,List.map_map]
 rfl
structure NmP (r:Int) (nm:List UInt8) (n:Nat) (ys:List EnP):Prop where
 len:ys.length = n
 pre:∀ y ∈ ys,y.Path.take nm.length = nm ∧ nm.length ≤ y.Path.length
 plain:(ys.filter fun y=>decide (y.Path = nm)).length = if nm.contains 126 = true then 0 else 1
 find:∀ y ∈ ys,y.Path.length ≤ 60 → findD (rowsN r nm n) y.Path = (y.Node,true)
 plen:∀ y ∈ ys,y.Path.length ≤ 755000
 rise:ys.Pairwise (fun a b=>Op.bytesLess a.Path b.Path = true)
theorem shN_pre (r:Int) (nm:List UInt8) (n i:Nat) (h:i < n):(shN r nm n i).take nm.length = nm ∧ nm.length ≤ (shN r nm n i).length:=by
 unfold shN
 rw [rowsN_shown r nm n i h]
 split <;> simp
theorem nmP {r:Int} {nm:List UInt8} {n:Nat} {ys:List EnP} (h0:0 < n) (ht:TreeOk (rowsN r nm n)) (h:LiP (rowsN r nm n) ys):NmP r nm n ys:=by
 have hp:=(h.tree ht).1
 rw [listN r nm n h0] at hp
 have hm:∀ y ∈ ys,∃ i,i < n ∧ y = enN r nm n i:=fun y hy=>by
  obtain ⟨i,hi,rfl⟩:=List.mem_map.1 (hp.subset hy)
  exact ⟨i,List.mem_range.1 hi,rfl⟩
 refine ⟨by rw [hp.length_eq];simp,fun y hy=>?_,?_,fun y hy hl=>?_,fun y hy=>h.plen ht hy,h.rise ht⟩
 ·obtain ⟨i,hi,rfl⟩:=hm y hy
  exact shN_pre r nm n i hi
 ·rw [(hp.filter _).length_eq,List.filter_map,List.length_map]
  exact rowsN_plain r nm n h0
 ·obtain ⟨i,hi,rfl⟩:=hm y hy
  have hok:=ht.ok _ (rowsN_mem.2 ⟨i,hi,rfl⟩)
  have hnm:nameOk (shN r nm n i) = true:=shown_name ((rightR_iff _).1 hok).1.2.2.2.1 (rightR_node hok) hl
  have hw:([shN r nm n i],rowN r nm i) ∈ waysD (rowsN r nm n) n zSt:=by
   obtain ⟨k,rfl⟩:∃ k,n = k + 1:=⟨n - 1,by omega⟩
   rw [rowsN_ways]
   exact List.mem_map.2 ⟨i,List.mem_range.2 hi,rfl⟩
  obtain ⟨e1,e2⟩:=ways_path ht hw
  have e3:joinD [shN r nm n i] = shN r nm n i:=rfl
  rw [e3] at e1 e2
  have hl':(shN r nm n i).length ≤ 60:=hl
  have hno:namesOk (shN r nm n i) = true:=by
   unfold namesOk
   rw [e1]
   simp only [List.all_cons,List.all_nil,hnm,List.length_singleton,Bool.and_true,Bool.and_eq_true,decide_eq_true_eq,true_and]
   omega
  show findD (rowsN r nm n) (shN r nm n i) = _
  unfold findD
  rw [e2,hno]
  simp [enN,rowN]
end Go.Proofs.YthehiobacjjakaaGreatDoor
namespace Go.Proofs.YthehiobacjjakaaGreatDoor
open Go.RowKit Go.Maps Go.Sort
@[simp] theorem fldS_T (w:World) (s:St):(Instr.field 24 (.agg (codS.A s)) 0).run Tryz.prog w = .ok (.int .i64 s.T) w:=by
 rw [Cod.A_eq]
 kernel_rfl
set_option maxRecDepth 100000 in
set_option maxHeartbeats 4000000 in
theorem alive17_any (W0:World) (hT0:HasT W0) (hM0:HasMW W0):Calls Tryz.prog 8 #[] W0 (Gives W0 (.bool true)):=by
 have HT0:=Lib.hid hT0
 have HM0:=Lib.hid hM0
 clear hT0 hM0
 go_enter Tryz.func8,Tryz.ntmps8
 go_upto_region 2 with (first
  | (go_at_call 24;refine (start_any W0).mono ?_;rintro e W ⟨rfl,FW⟩)
  | (go_at_call 9;refine (new_nil W ⟨10,1⟩).mono ?_;rintro e w1 ⟨⟨P,d1,rs1,rfl,hd1⟩,F1⟩))
 have HT:=Lib.hid (HT0.out.fr FW)
 have HM:=Lib.hid (HM0.out.fr FW)
 have HFW:=Lib.hid FW
 have hd1:Dw W w1 P dA0 d1 rs1:=hd1
 have tok1:True:=trivial
 have tik1:True:=trivial
 have tak1:True:=trivial
 have D1:=Lib.hid hd1
 have F1:=Lib.hid F1
 clear FW hd1
 go_upto_region 4 with (first
  | (have _t:=tok1;go_at_call 25;refine (lit_of D1.out F1.out (wput_any D1.out tree_nil (by decide) F1.out HT.out HM.out [97,47,98] (by decide) id1) alv_1).mono ?_;rintro e w2 ⟨rfl,⟨d2,rs2,hd2⟩,f2⟩;have D2:=Lib.hid hd2;have F2:=Lib.hid f2;clear hd2 f2 _t tok1;have tok2:True:=trivial)
  | (have _t:=tak1;go_at_call 17;refine (rows_call D2.out alv_t1).mono ?_;rintro e w3 ⟨A3,c3,rs3,rfl,_,_,_,f3⟩;have D3:=Lib.hid (D2.out.fr0 f3);have F3:=Lib.hid (F2.out.step0 f3);clear f3 _t tak1;rw [show dA1.rows.length = 2 from rfl])
  | (have _t:=tik1;go_at_call 26;refine (lit_of D3.out F3.out (wmove_any D3.out alv_t1 (by decide) F3.out HT.out HM.out [97,47,98] [120,47,99] (by decide) (by decide)) alv_2).mono ?_;rintro e w4 ⟨rfl,⟨d4,rs4,hd4⟩,f4⟩;have D4:=Lib.hid hd4;have F4:=Lib.hid f4;clear hd4 f4 _t tik1;have tik2:True:=trivial)
  | (have _t:=tik2;go_at_call 26;refine (lit_of D4.out F4.out (wmove_any D4.out alv_t1 (by decide) F4.out HT.out HM.out [97,47,98] [99] (by decide) (by decide)) alv_3).mono ?_;rintro e w5 ⟨rfl,⟨d5,rs5,hd5⟩,f5⟩;have D5:=Lib.hid hd5;have F5:=Lib.hid f5;clear hd5 f5 _t tik2)
  | (have _t:=tok2;go_at_call 25;refine (lit_of D5.out F5.out (wput_any D5.out alv_t2 (by decide) F5.out HT.out HM.out [99,47,100] (by decide) id1) alv_4).mono ?_;rintro e w6 ⟨rfl,⟨d6,rs6,hd6⟩,f6⟩;have D6:=Lib.hid hd6;have F6:=Lib.hid f6;clear hd6 f6 _t tok2)
  | (go_at_call 15;refine (next_call D6.out).mono ?_;rintro e w7 ⟨rfl,f7⟩;have D7:=Lib.hid (D6.out.fr0 f7);have F7:=Lib.hid (F6.out.step0 f7);clear f7;rw [show dA2.next = ⟨14,1⟩ from rfl]))
 have FC:=Lib.hid (find_call D7.out (by decide) (HT.out.fr F7.out) (HM.out.fr F7.out) [99] (by decide))
 have FC:=Lib.hid (show Calls Tryz.prog 18 #[.pointer (some ⟨P,0,none⟩),.string ⟨#[99]⟩] w7 (FdTo w7 (⟨11,1⟩,true)) from by have:=FC.out;rw [alv_5] at this;exact this)
 go_upto_region 5 with (go_at_call 18;refine FC.out.mono ?_;rintro e w8 ⟨rfl,f8⟩)
 have D8:=Lib.hid (D7.out.fr0 f8)
 have F8:=Lib.hid (F7.out.step0 f8)
 have b8:=Cod.rd_new' (C:=codS) w8 ⟨11,1⟩
 have fa:Fr noB w8 (w8.alloc (codS.o ⟨11,1⟩)):=(Fr.refl noB w8).alloc _
 have D9:=Lib.hid (D8.out.fr0 fa)
 have F9:=Lib.hid (F8.out.step0 fa)
 clear fa f8 FC
 generalize w8.alloc (codS.o ⟨11,1⟩) = w9 at b8 D9 F9 ⊢
 generalize w8.heap.size = N at b8 ⊢
 go_upto_region 6 with (first
  | (go_at_call 17;refine (rows_call D9.out alv_t2).mono ?_;rintro e w10 ⟨A10,c10,rs10,rfl,l10,o10,a10,f10⟩)
  | (go_at_call 21;refine (list_call l10 o10 a10 alv_t2 (HT.out.fr (F9.out.step0 f10))).mono ?_;rintro e w11 ⟨A11,c11,os,ys,rfl,o11,a11,y11,f11⟩))
 have ey:=alv_y2 y11
 subst ey
 have hl:os.length = 2:=a11.1
 have D11:=Lib.hid (D9.out.fr0 (f10.step0 f11))
 have F11:=Lib.hid (F9.out.step0 (f10.step0 f11))
 have n11:w11.cell? ⟨N,0,none⟩ = some (.int .i64 11):=by
  have:=Cod.rd_cell (Cod.rd_fr0 b8 (f10.step0 f11)) 0 (v:=.int .i64 11) rfl
  simpa using this
 have hp1:(os[1]'(by omega)).Path = [99]:=((a11.2 1 (by omega) (by decide)).path).symm
 obtain ⟨g,off,eA,_⟩:=Sl.addr (Sl.own o11) (show 0 < os.length by omega)
 have r1:=(enAtO (by have:=Sl.own o11;rw [eA] at this;exact Sl.rd this 1 (by omega))).path
 rw [hp1] at r1
 have r1:w11.cell? ⟨g,off + 4,none⟩ = some (.string ⟨#[99]⟩):=r1
 rw [hl,eA]
 clear a11 y11 o11 hp1 eA hl l10 o10 a10 f10 f11 b8
 have RM:=Lib.hid (lit_of D11.out F11.out (remove_any D11.out alv_t2 (by decide) F11.out HT.out HM.out [97] (by decide)) alv_6)
 go_wp2_with (first
  | (go_at_call 27;refine RM.out.mono ?_;rintro e w12 ⟨rfl,⟨d12,rs12,hd12⟩,f12⟩)
  | (go_at_call 17;refine (rows_call hd12 alv_t3).mono ?_;rintro e w13 ⟨A13,c13,rs13,rfl,l13,o13,a13,f13⟩)
  | (go_at_call 21;refine (list_call l13 o13 a13 alv_t3 (HT.out.fr (f12.step0 f13))).mono ?_;rintro e w14 ⟨A14,c14,os14,ys14,rfl,o14,a14,y14,f14⟩;rw [show os14.length = 1 from a14.1.trans (alv_y3 y14)]))
 go_ret
 exact ⟨by first | rfl | simp,HFW.out.step0 (f12.step0 (f13.step0 f14))⟩
end Go.Proofs.YthehiobacjjakaaGreatDoor
namespace Go.Proofs.YthehiobacjjakaaGreatDoor
open Go.ChangeShapes Go.WideShapes Go.ChangeAt Go.RowKit Go.Deep
section
variable {H:Type} {enc:TypeId × Value → H} {W:World}
end
end Go.Proofs.YthehiobacjjakaaGreatDoor
namespace Go.Proofs.YthehiobacjjakaaGreatDoor
open Go.ChangeShapes Go.WideShapes Go.ChangeAt Go.RowKit Go.Deep
def laidW : List (String × DataW Unit) := [("math/bits.deBruijn32tab", Rows.laid_math_bits_deBruijn32tab), ("math/bits.deBruijn64tab", Rows.laid_math_bits_deBruijn64tab), ("internal/strconv.uint64pow10", Rows.laid_internal_strconv_uint64pow10), ("unicode/utf8.acceptRanges", Rows.laid_unicode_utf8_acceptRanges), ("unicode/utf8.first", Rows.laid_unicode_utf8_first)]
theorem hasMW {W:World} (h:W.ShapedOpen Tryz.prog):HasMW W:=by
 obtain ⟨m,hm⟩:=cell_of_shapedOpen_int (P:=Tryz.prog) (g:=0) (t:=3) (zero:=#[.int .i64 0]) (k:=.i64) h (of_decide_eq_true (by kernel_rfl)) (by kernel_rfl) rfl (by kernel_rfl) (by kernel_rfl) Tryz.underlying3
 exact ⟨⟨m,hm⟩,World.block_lt_of_cell? _ _ hm⟩
set_option maxRecDepth 100000 in
theorem hasTW {W:World} (h:laidMetH Tryz.prog laidW W):HasT W:=by
 rw [MakeChecks.laidMetH_plain _ _ _ (by kernel_rfl)] at h
 obtain ⟨ps,⟨_,_,_,_,_,_,_,_,_,_,⟨_,_,_,_,_,_,_,_,_,_,⟨g,t,cs,fuel,p,q,hg,ht,hv,hd,_,_⟩,_⟩,_⟩,_⟩:=h
 obtain rfl := Option.some.inj ((show Tryz.prog.globalNamed "internal/strconv.uint64pow10" = some 1 by kernel_rfl).symm.trans hg)
 obtain rfl:=Option.some.inj ((show (Tryz.prog.globals[1]?).map (·.type) = some 193 by kernel_rfl).symm.trans ht)
 have hd':DataW.trod _ Tryz.prog W 0 _ false fuel 193 cs.toList = some (Lib.tabData .u64 Lib.pow10Tab,p):=hd
 have:=Lib.cells_of_tab (k:=.u64) (zs:=Lib.pow10Tab) Tryz.underlying193 Tryz.underlying147 (by kernel_rfl) (by kernel_rfl) hd'
 unfold HasT Lib.TabIs
 rw [hv,← this]
theorem handed_laid {H:Type} {enc:TypeId × Value → H} {a:Assume} {C:Checked} {os:Os} {f:FuncId} {fn:Func} {s:ChangeSpec} {conds:List PathCond} {apart fresh handsOn again:Bool} {X:World → Array Value → Prop}
  (hX:∀ (w w':World) (args:Array Value),w.heap = w'.heap → X w args → X w' args)
  (own:ownKnob C.prog.godebug = none) (started:os.Started) (noInit:C.prog.inits.idxOf? f = none) (hfn:C.prog.funcs[f]? = some fn)
  (witness:∃ (w:World) (tape:Tape) (i:Input),w.os = os ∧ (w.forCall tape i).Shaped C.prog ∧ i.vars = [] ∧ Input.okWide C.prog (w.forCall tape i) .any w.heap.size f i ∧
   ((s.pre enc C.prog fn conds apart (w.forCall tape i).memory i.args ∧ X (w.forCall tape i).memory i.args) ∧ sizedMet enc C.prog fn (OpenSpec.ofChange s) apart (w.forCall tape i).memory i.args) ∧ a.holds C.prog (lone (Frame.enter C.prog f i.args .normal) [] (w.forCall tape i)))
  (contract:∀ (W:World) (base:Nat) (args:Array Value) (ds gs:List (DataW H)) (before:List MemPlace),
   (∀ (j:Nat) t v,fn.params[j]? = some t → args[j]? = some v → Value.okWide C.prog W .any base t v) →
   DataW.Whole enc C.prog fn.params.toList s.vars apart W args.toList ds gs before →
   conds.all (PathCond.test C.prog ⟨fn.params.toList,ds,s.plain.varTypes C.prog,gs⟩) = true →
   (DataW.weightsEach C.prog (fn.params.toList ++ s.plain.varTypes C.prog) (ds ++ gs)).all (· ≤ reachBytes) = true → X W args → W.ShapedOpen C.prog →
   a.holds C.prog (lone (Frame.enter C.prog f args .normal) [] W) →
   Calls C.prog f args W fun e W'=>∃ v,e = .returned v ∧ s.post enc C.prog fn apart fresh handsOn again W args v W') :
  ReturnsInHanded a C os f .any (fun w args=>(s.pre enc C.prog fn conds apart w args ∧ X w args) ∧ sizedMet enc C.prog fn (OpenSpec.ofChange s) apart w args) (s.post enc C.prog fn apart fresh handsOn again):=by
 refine returnsInHanded_of_calls own started noInit witness ?_
 intro w tape i _ hsh _ hok hpre hholds
 obtain ⟨_,_,_,fn',hfn',_,_,_,_,hval⟩:=hok
 have e:fn' = fn:=Option.some.inj (hfn'.symm.trans hfn)
 subst e
 obtain ⟨⟨⟨ds,gs,before,hw,hc⟩,hx⟩,hz⟩:=hpre
 have hw':=DataW.Whole.of_heap (w':=w.forCall tape i) (by rfl) hw
 refine (contract (w.forCall tape i) w.heap.size i.args ds gs before hval hw' hc (hz.weights hw) (hX _ _ _ (by rfl) hx) hsh hholds).mono fun e W' ⟨v,he,hp⟩=>?_
 subst he
 exact ChangeSpec.post_blind hp
section
variable {H:Type} {enc:TypeId × Value → H} {W:World}
end
end Go.Proofs.YthehiobacjjakaaGreatDoor
