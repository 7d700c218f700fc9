/- Words for the laws of work: calls of a draft with what they leave; the document's example (plain). Plain: what List answers: paths rise, and lead to their nodes. Plain: what a step of a script does to rows and clock. -/
import Derived.Test.YthehiobacjjakaaGreatDoorLOpKp
import Derived.Test.YthehiobacjjakaaGreatDoorWlIKp
set_option linter.unusedVariables false
set_option linter.unusedSimpArgs false
namespace Go.Proofs.YthehiobacjjakaaGreatDoor
open Go.RowKit Go.Maps Go.Sort
structure LitTo (W:World) (P:Nat) (D:Dft) (z:Int) (e:Ending) (w':World):Prop where
 ret:e = .returned (.int .i64 z)
 ex:∃ d rs,Dw W w' P D d rs
 fr:Fr noB W w'
theorem lit_of {W w:World} {P:Nat} {D D':Dft} {d:DfW} {rs:List RwW} {o:Dft × Int} {z:Int} {f:FuncId} {args:Array Value} (h:Dw W w P D d rs) (F:Fr noB W w) (k:Calls Tryz.prog f args w (DoTo W w P d o)) (E:o = (D',z)) :
  Calls Tryz.prog f args w (LitTo W P D' z):=by
 subst E
 refine k.mono fun e w' ⟨h1,h2⟩=>⟨h1,?_,h2.old h F⟩
 obtain ⟨d',rs',h3,_⟩:=h2.ex
 exact ⟨d',rs',h3⟩
def RwTo (w:World) (xs:List RwP) (e:Ending) (w':World):Prop:=∃ A c rs,e = .returned (.slice A xs.length c) ∧ rs.length = xs.length ∧ OwnC codR w w' A c rs ∧ AllO RwO w' rs xs ∧ Fr noB w w'
theorem rows_call {W w:World} {P:Nat} {D:Dft} {d:DfW} {rs:List RwW} (h:Dw W w P D d rs) (ht:TreeOk D.rows):Calls Tryz.prog 17 #[.pointer (some ⟨P,0,none⟩)] w (RwTo w D.rows) :=
 (rows_any w P d h.bx rs h.n (Sl.own h.own) D.rows (RwsO_.rws h.rows) (by have:=h.rows.1;have:=ht.len;omega) (heads_small ht)).mono fun e w' ⟨A,c,rs',e1,o,a,f⟩ =>
  ⟨A,c,rs',by rw [← a.1];exact e1,a.1,o,a,f⟩
theorem list_call {w0 w:World} {A:Option Addr} {c n:Nat} {rs:List RwW} {xs:List RwP} (hn:rs.length = n) (o:OwnC codR w0 w A c rs) (a:AllO RwO w rs xs) (ht:TreeOk xs) (hT:HasT w):Calls Tryz.prog 21 #[.slice A n c] w (LiTo w xs) :=
 li_any w A c n rs xs hn (Sl.own o) (by have:=a.1;have:=ht.len;omega) (RwsO_.rws a) (heads_small ht) hT
def findD (rs:List RwP) (p:List UInt8):St × Bool:=if namesOk p && decide ((splitD p).length ≤ (walkD rs zRwP (splitD p)).2) then ((walkD rs zRwP (splitD p)).1.Node,true) else (zSt,false)
theorem find_call {W w:World} {P:Nat} {D:Dft} {d:DfW} {rs:List RwW} (h:Dw W w P D d rs) (hb:D.rows.length ≤ 100000) (hT:HasT w) (hM:HasMW w) (p:List UInt8) (hp:p.length < 4294967281) :
  Calls Tryz.prog 18 #[.pointer (some ⟨P,0,none⟩),.string (str p)] w (FdTo w (findD D.rows p)):=by
 have:=find_any w P d h.bx rs h.n (Sl.own h.own) (by have:=h.rows.1;omega) (rowsOk_link h.rows) hT hM p hp
 rw [find_link h.rows p] at this
 exact this
theorem next_call {W w:World} {P:Nat} {D:Dft} {d:DfW} {rs:List RwW} (h:Dw W w P D d rs):Calls Tryz.prog 15 #[.pointer (some ⟨P,0,none⟩)] w (Gives w (.agg (codS.A D.next))):=by
 have:=next_any w P d h.bx
 rw [h.next] at this
 exact this
theorem tree_nil:TreeOk []:=⟨by simp,(fun r h=>nomatch h),rfl,(fun r h=>nomatch h)⟩
theorem newD_nil:newD [] = []:=by unfold newD;split <;> rfl
theorem new_nil (w:World) (s:St):Calls Tryz.prog 9 #[.slice none 0 0,.agg (codS.A s)] w (NwTo w ⟨[],s⟩):=by
 have:=new_any' w none 0 0 [] [] rfl (Sl.nil _ _) (by simp) RwsIn.nil (by simp) s
 rw [newD_nil] at this
 exact this
theorem new_call (w:World) (A:Option Addr) (c n:Nat) (rs:List RwW) (xs:List RwP) (hn:rs.length = n) (hs:Sl w A (codR.row rs)) (hb:rs.length ≤ 140737488355328) (hX:RwsIn w rs xs) (hbd:∀ x ∈ xs,x.Heads.length ≤ 2932031007402) (s:St) :
  Calls Tryz.prog 9 #[.slice A n c,.agg (codS.A s)] w (NwTo w ⟨newD xs,s⟩):=new_any' w A c n rs xs hn hs hb hX hbd s
/-! the document's example -/
def id1:ID:=id2 1 0
def ra1:RwP:=⟨⟨10,1⟩,zSt,⟨10,1⟩,[97],[]⟩
def rb1:RwP:=⟨⟨11,1⟩,⟨10,1⟩,⟨11,1⟩,[98],[⟨⟨12,1⟩,id1⟩]⟩
def rb2:RwP:=⟨⟨11,1⟩,zSt,⟨13,1⟩,[99],[⟨⟨12,1⟩,id1⟩]⟩
def ra3:RwP:=⟨⟨10,1⟩,trS,⟨14,1⟩,[97],[]⟩
def dA0:Dft:=⟨[],⟨10,1⟩⟩
def dA1:Dft:=⟨[ra1,rb1],⟨13,1⟩⟩
def dA2:Dft:=⟨[ra1,rb2],⟨14,1⟩⟩
def dA3:Dft:=⟨[ra3,rb2],⟨15,1⟩⟩
theorem alv_1:putF dA0 [97,47,98] id1 = (dA1,0):=by kernel_rfl
theorem alv_2:moveF dA1 [97,47,98] [120,47,99] = (dA1,4):=by kernel_rfl
theorem alv_3:moveF dA1 [97,47,98] [99] = (dA2,0):=by kernel_rfl
theorem alv_4:putF dA2 [99,47,100] id1 = (dA2,170):=by kernel_rfl
theorem alv_5:findD dA2.rows [99] = (⟨11,1⟩,true):=by kernel_rfl
theorem alv_6:removeF dA2 [97] = (dA3,0):=by kernel_rfl
theorem alv_t1:TreeOk dA1.rows:=by
 have:=(put_ok dA0 [97,47,98] id1).tree tree_nil
 rw [alv_1] at this
 exact this
theorem alv_t2:TreeOk dA2.rows:=by
 have:=(move_ok dA1 [97,47,98] [99]).tree alv_t1
 rw [alv_3] at this
 exact this
theorem alv_t3:TreeOk dA3.rows:=by
 have:=(remove_ok dA2 [97]).tree alv_t2
 rw [alv_6] at this
 exact this
theorem alv_l2:listF dA2.rows dA2.rows.length zSt [] = [⟨[97],⟨10,1⟩,[]⟩,⟨[99],⟨11,1⟩,[⟨⟨12,1⟩,id1⟩]⟩]:=by kernel_rfl
theorem alv_l3:listF dA3.rows dA3.rows.length zSt [] = [⟨[99],⟨11,1⟩,[⟨⟨12,1⟩,id1⟩]⟩]:=by kernel_rfl
theorem perm_two {α:Type} {a b:α} {l:List α} (h:l.Perm [a,b]):l = [a,b] ∨ l = [b,a]:=by
 have hl:=h.length_eq
 match l,hl with
 | [x,y],_ =>
  have hx:x ∈ [a,b]:=h.subset (by simp)
  have h2:=h
  simp only [List.mem_cons,List.not_mem_nil,or_false] at hx
  rcases hx with rfl | rfl
  ·have:=(List.perm_cons x).1 h2
   have:=List.perm_singleton.1 this
   injection this with this
   subst this
   exact .inl rfl
  ·have h3:([x,y]:List α).Perm [x,a]:=h2.trans (List.Perm.swap x a [])
   have:=(List.perm_cons x).1 h3
   have:=List.perm_singleton.1 this
   injection this with this
   subst this
   exact .inr rfl
theorem alv_y2 {ys:List EnP} (h:LiP dA2.rows ys):ys = [⟨[97],⟨10,1⟩,[]⟩,⟨[99],⟨11,1⟩,[⟨⟨12,1⟩,id1⟩]⟩]:=by
 obtain ⟨h1,h2⟩:=h.tree alv_t2
 rw [alv_l2] at h1
 rcases perm_two h1 with e | e
 ·exact e
 ·rw [e] at h2
  have:=(List.pairwise_cons.1 h2).1 _ (List.mem_singleton.2 rfl)
  exact absurd (show cfQ (pnP ⟨[97],⟨10,1⟩,[]⟩) (pnP ⟨[99],⟨11,1⟩,[⟨⟨12,1⟩,id1⟩]⟩) < 0 from cfQ_lt.2 (.inl (by kernel_rfl))) this
theorem alv_y3 {ys:List EnP} (h:LiP dA3.rows ys):ys.length = 1:=by
 obtain ⟨h1,_⟩:=h.tree alv_t3
 rw [alv_l3] at h1
 exact h1.length_eq
end Go.Proofs.YthehiobacjjakaaGreatDoor
namespace Go.Proofs.YthehiobacjjakaaGreatDoor
theorem ways_150 {rs:List RwP} (hn:∀ r ∈ rs,nameOk r.Name = true ∧ wfS r.Node = true) {k:Nat}:∀ {p:St} {l:List (List UInt8)} {x:RwP},(l,x) ∈ waysD rs k p → ∀ s ∈ l,s.length ≤ 150:=by
 induction k with
 | zero=>intro p l x h;cases h
 | succ k ih =>
  intro p l x h
  obtain ⟨i,hi,h⟩:=ways_mem.1 h
  have hm:(kidsD rs p)[i] ∈ rs:=(List.mem_filter.1 (List.getElem_mem hi)).1
  have h0:=shownD_len (us:=kidsD rs p) (i:=i) (hn _ hm).1 (hn _ hm).2
  rcases h with ⟨rfl,rfl⟩ | ⟨l',rfl,hq⟩
  ·intro s hs
   rw [List.mem_singleton] at hs
   rw [hs]
   exact h0
  ·intro s hs
   rcases List.mem_cons.1 hs with hs | hs
   ·rw [hs]
    exact h0
   ·exact ih hq s hs
theorem joinD_len:∀ (l:List (List UInt8)),(∀ s ∈ l,s.length ≤ 150) → (joinD l).length ≤ 151 * l.length
 | [],_=>by simp [joinD]
 | [x],h=>by have:=h x (by simp);simp only [joinD,List.length_cons,List.length_nil];omega
 | x :: y :: l,h=>by
  have h1:=h x (by simp)
  have h2:=joinD_len (y :: l) (fun s hs=>h s (by simp at hs ⊢;exact .inr hs))
  show (x ++ 47 :: joinD (y :: l)).length ≤ _
  simp only [List.length_append,List.length_cons] at h2 ⊢
  omega
theorem LiP.way {xs:List RwP} {ys:List EnP} (h:LiP xs ys) (ht:TreeOk xs) {y:EnP} (hy:y ∈ ys):∃ l x,(l,x) ∈ waysD xs xs.length zSt ∧ y = ⟨joinD l,x.Node,x.Heads⟩:=by
 have h1:=(h.tree ht).1.subset hy
 unfold listF at h1
 obtain ⟨⟨l,x⟩,h2,h3⟩:=List.mem_map.1 h1
 exact ⟨l,x,h2,by rw [← h3];simp [entD]⟩
theorem LiP.len {xs:List RwP} {ys:List EnP} (h:LiP xs ys) (ht:TreeOk xs):ys.length ≤ xs.length:=by
 rw [(h.tree ht).1.length_eq]
 exact listF_len ht _ (lev_fixed (by decide:fixedS zSt = true)) []
theorem LiP.paths {xs:List RwP} {ys:List EnP} (h:LiP xs ys) (ht:TreeOk xs):(ys.map (·.Path)).Nodup:=by
 have h1:=((h.tree ht).1.map (·.Path)).nodup_iff.2 (by
  unfold listF
  rw [List.map_map]
  have e:((fun x:EnP=>x.Path) ∘ entD []) = fun q:List (List UInt8) × RwP=>joinD q.1:=by
   funext q
   simp [entD]
  rw [e]
  exact ways_paths ht _)
 exact h1
theorem LiP.rise {xs:List RwP} {ys:List EnP} (h:LiP xs ys) (ht:TreeOk xs):ys.Pairwise (fun a b=>Op.bytesLess a.Path b.Path = true):=by
 have h1:=(h.tree ht).2
 have h2:=h.paths ht
 rw [List.Nodup,List.pairwise_map] at h2
 refine (h1.and h2).imp fun {a b} hab=>?_
 cases hl:Op.bytesLess a.Path b.Path with
 | true=>rfl
 | false =>
  have h3:Op.bytesLess b.Path a.Path = false:=by
   cases hb:Op.bytesLess b.Path a.Path with
   | false=>rfl
   | true=>exact absurd (cfQ_lt.2 (.inl hb)) hab.1
  exact absurd (less_tri hl h3) hab.2
theorem grow_next:∀ (l:List (List UInt8)) (D:Dft) (a:RwP),(growD D a l).1.next = tickD D.next l.length
 | [],D,a=>(tick_zero _).symm
 | nm :: l,D,a=>by
  show (growD _ _ l).1.next = _
  rw [grow_next l]
  show tickD (tickD D.next 1) _ = _
  rw [tick_tick,List.length_cons,Nat.add_comm]
def nxt (s:St):Prop:=-9223372036854775808 ≤ s.T ∧ s.T ≤ 9223372036854775807 ∧ -9223372036854775808 ≤ s.R ∧ s.R ≤ 9223372036854775807
theorem nxt_iff {s:St}:nxt s ↔ wfS s = true:=by
 unfold nxt wfS
 simp only [Bool.and_eq_true,decide_eq_true_eq]
 omega
theorem room_nxt {D:Dft} {n:Nat} (h:roomD D (n + 1) = true):nxt (tickD D.next (n + 1)):=by
 have h1:=room_right h n (by omega)
 unfold rightS tickD at h1
 simp only [Bool.and_eq_true,decide_eq_true_eq] at h1
 unfold nxt tickD
 simp only
 omega
theorem put_nxt {D:Dft} (hw:nxt D.next) (p:List UInt8) (x:ID):nxt (putF D p x).1.next:=by
 unfold putF
 split
 ·exact hw
 split
 ·exact hw
 split
 ·exact hw
 split
 ·exact hw
 split
 ·exact hw
 split
 ·exact hw
 split
 ·exact hw
 rename_i h7
 have h7:roomD D ((freshD D p).length + 1) = true:=by simpa using h7
 show nxt (tickD (growD D _ (freshD D p)).1.next 1)
 rw [grow_next,tick_tick]
 exact room_nxt h7
theorem move_nxt {D:Dft} (hw:nxt D.next) (p q:List UInt8):nxt (moveF D p q).1.next:=by
 unfold moveF
 split
 ·exact hw
 split
 ·exact hw
 split
 ·exact hw
 split
 ·exact hw
 split
 ·exact hw
 split
 ·exact hw
 rename_i h7
 exact room_nxt (n:=0) (by simpa using h7)
theorem remove_nxt {D:Dft} (hw:nxt D.next) (p:List UInt8):nxt (removeF D p).1.next:=by
 unfold removeF
 split
 ·exact hw
 split
 ·exact hw
 split
 ·exact hw
 rename_i h7
 exact room_nxt (n:=0) (by simpa using h7)
structure DoesOk (D:Dft) (o:OpL):Prop where
 tree:TreeOk (doesF D o).1.rows
 nx:wfS (doesF D o).1.next = true
 no:((doesF D o).2 ≠ 0 ∨ o.Kind < 1 ∨ 3 < o.Kind) → (doesF D o).1 = D
 put:(doesF D o).2 = 0 → o.Kind = 1 → ∃ k,(doesF D o).1.rows.length = D.rows.length + k ∧ (doesF D o).1.next = tickD D.next (k + 1)
 one:(doesF D o).2 = 0 → 1 < o.Kind → o.Kind ≤ 3 → (doesF D o).1.rows.length = D.rows.length ∧ (doesF D o).1.next = tickD D.next 1
theorem CallOk.one {D:Dft} {r:Dft × Int} (h:CallOk D r true) (ht:TreeOk D.rows) (h0:r.2 = 0):r.1.rows.length = D.rows.length ∧ r.1.next = tickD D.next 1:=by
 obtain ⟨k,h1,h2,h3⟩:=h.took ht h0
 have:=h3 rfl
 subst this
 exact ⟨h1,h2⟩
theorem does_ok {D:Dft} (ht:TreeOk D.rows) (hw:wfS D.next = true) (o:OpL):DoesOk D o:=by
 have hn:=nxt_iff.2 hw
 by_cases h1:o.Kind = 1
 ·have e:doesF D o = putF D o.A o.ID:=by unfold doesF;rw [if_pos h1]
  have c:=put_ok D o.A o.ID
  rw [← e] at c
  refine ⟨c.tree ht,nxt_iff.1 (by rw [e];exact put_nxt hn _ _),fun h=>?_,fun h0 _=>?_,fun _ h=>by omega⟩
  ·rcases h with h | h | h
   ·exact c.same h
   ·omega
   ·omega
  ·obtain ⟨k,h2,h3,_⟩:=c.took ht h0
   exact ⟨k,h2,h3⟩
 ·by_cases h2:o.Kind = 2
  ·have e:doesF D o = moveF D o.A o.Z:=by unfold doesF;rw [if_neg h1,if_pos h2]
   have c:=move_ok D o.A o.Z
   rw [← e] at c
   refine ⟨c.tree ht,nxt_iff.1 (by rw [e];exact move_nxt hn _ _),fun h=>?_,fun _ h=>absurd h h1,fun h0 _ _=>c.one ht h0⟩
   rcases h with h | h | h
   ·exact c.same h
   ·omega
   ·omega
  ·by_cases h3:o.Kind = 3
   ·have e:doesF D o = removeF D o.A:=by unfold doesF;rw [if_neg h1,if_neg h2,if_pos h3]
    have c:=remove_ok D o.A
    rw [← e] at c
    refine ⟨c.tree ht,nxt_iff.1 (by rw [e];exact remove_nxt hn _),fun h=>?_,fun _ h=>absurd h h1,fun h0 _ _=>c.one ht h0⟩
    rcases h with h | h | h
    ·exact c.same h
    ·omega
    ·omega
   ·have e:doesF D o = (D,0):=by unfold doesF;rw [if_neg h1,if_neg h2,if_neg h3]
    exact ⟨by rw [e];exact ht,by rw [e];exact hw,fun _=>by rw [e],fun _ h=>absurd h h1,fun _ h h'=>by omega⟩
end Go.Proofs.YthehiobacjjakaaGreatDoor
