/- Entries of the reference's list as they lie in memory; insertion by path (plain). Contract: the law's same, of equal lists. (ex_ldS_at) -/
import Derived.Test.YthehiobacjjakaaGreatDoorWlIKp
import Derived.Test.YthehiobacjjakaaGreatDoorRfQKp
import Derived.Test.YthehiobacjjakaaGreatDoorR12Kp
import Derived.Deep.CutRange
set_option linter.unusedVariables false
set_option linter.unusedSimpArgs false
namespace Go.Proofs.YthehiobacjjakaaGreatDoor
open Go.RowKit Go.Maps Go.Sort
def codEv:Cod EnW:=⟨85,4,csEn,zEnW,fun x=>by simp [csEn],by decide,fun x u hu=>by
  simp only [csEn,List.mem_cons,List.not_mem_nil,or_false] at hu
  rcases hu with rfl | rfl | rfl | rfl <;> rfl,fun x y h=>by
 obtain ⟨nm,⟨a,b⟩,A,n,c⟩:=x;obtain ⟨nm',⟨a',b'⟩,A',n',c'⟩:=y
 simp only [csEn] at h;simp only [List.cons.injEq,Value.int.injEq,Value.string.injEq,Value.slice.injEq,true_and,and_true] at h
 obtain ⟨hn,rfl,rfl,h1,h2,h3⟩:=h
 have hn:=str_inj hn
 subst hn h1 h2 h3
 rfl⟩
theorem okEv:CodOk Tryz.prog codEv:=⟨⟨_,Tryz.underlying85,rfl⟩,by kernel_rfl,fun w=>(zero_of_info (P:=Tryz.prog) (t:=85) (v:=.agg (codEv.cs codEv.z).toArray) (n:=4) (by kernel_rfl)).1 w⟩
@[simp ↓] theorem ex_ldEv (ρ:Operand → Value) (d:Option Nat) (a:Operand) (t:TypeId) (p:String) (f:Array Edge) (g:Option (Nat × Bool)) (w:World) :
  (execOp ρ { dst:=d,op:=.load 85 a,type:=t,pos:=p,after:=f,guard:=g }).run Tryz.prog w = codEv.ldR w (ρ a) (exElse ρ { dst:=d,op:=.load 85 a,type:=t,pos:=p,after:=f,guard:=g } w):=okEv.ldOp ρ _ a rfl w
@[simp ↓] theorem ex_stEv (ρ:Operand → Value) (a x:Operand) (d:Option Nat) (t:TypeId) (p:String) (f:Array Edge) (g:Option (Nat × Bool)) (w:World) :
  (execOp ρ { dst:=d,op:=.store 85 a x,type:=t,pos:=p,after:=f,guard:=g }).run Tryz.prog w = codEv.stR w (ρ a) (ρ x):=Cod.stOp (C:=codEv) ρ _ a x rfl w
theorem etEv:ET Tryz.prog 51 codEv.t codEv.n 56:=ET.mk' (z:=.agg (codEv.cs codEv.z).toArray) Tryz.underlying51 (by kernel_rfl) (by simp only [Value.cells];kernel_rfl) (by decide) (by decide)
theorem bs_Ev (w:World) (x:EnW):(Instr.buildSlice 51 1 #[(0,.agg (codEv.A x))]).run Tryz.prog w = .ok (.slice (some ⟨w.heap.size,0,none⟩) 1 1) (w.alloc (codEv.ro [x])):=okEv.bs1 51 Tryz.underlying51 Tryz.sizeOf85 (by decide) w x
@[simp ↓] theorem ex_bsEv (ρ:Operand → Value) (a:Operand) (d:Option Nat) (t:TypeId) (p:String) (f:Array Edge) (g:Option (Nat × Bool)) (w:World) :
  (execOp ρ { dst:=d,op:=.buildSlice 51 1 #[(0,a)],type:=t,pos:=p,after:=f,guard:=g }).run Tryz.prog w = bsR 51 w (ρ a):=bsOp 51 ρ _ a rfl w
@[simp] theorem bsR_Ev (w:World) (x:EnW):bsR 51 w (.agg (codEv.A x)) = .ok (.value (.slice (some ⟨w.heap.size,0,none⟩) 1 1)) (w.alloc (codEv.ro [x])):=by
 unfold bsR;rw [bs_Ev];rfl
structure EvAt (w:World) (b:Nat) (r:EnW):Prop where
 path:w.cell? ⟨b,0,none⟩ = some (.string (str r.Path))
 node:codS.rd w b 1 = some r.Node
 heads:w.cell? ⟨b,3,none⟩ = some (.slice r.A r.n r.c)
theorem evAt {w:World} {b:Nat} {r:EnW} (h:codEv.rd w b 0 = some r):EvAt w b r:=by
 have e (k:Nat) {v:Value} (hv:(codEv.cs r)[k]? = some v):=by simpa using Cod.rd_cell h k hv
 have s (k:Nat) {x:St} (hv:∀ j v,(codS.cs x)[j]? = some v → (codEv.cs r)[k + j]? = some v):=by simpa using Cod.rd_part (C':=codS) h k hv
 exact ⟨e 0 rfl,s 1 (get2 _ _ 1 rfl rfl),e 3 rfl⟩
structure EvAtO (w:World) (b o:Nat) (r:EnW):Prop where
 path:w.cell? ⟨b,o,none⟩ = some (.string (str r.Path))
 node:codS.rd w b (o + 1) = some r.Node
 heads:w.cell? ⟨b,o + 3,none⟩ = some (.slice r.A r.n r.c)
theorem evAtO {w:World} {b o:Nat} {r:EnW} (h:codEv.rd w b o = some r):EvAtO w b o r:=by
 have e (k:Nat) {v:Value} (hv:(codEv.cs r)[k]? = some v):=Cod.rd_cell h k hv
 have s (k:Nat) {x:St} (hv:∀ j v,(codS.cs x)[j]? = some v → (codEv.cs r)[k + j]? = some v):=Cod.rd_part (C':=codS) h k hv
 exact ⟨e 0 rfl,s 1 (get2 _ _ 1 rfl rfl),e 3 rfl⟩
theorem bldEv (w:World) (s:St) (m:List UInt8) (A:Option Addr) (n c:Nat):(Instr.build 85 #[(0,.string (str m)),(1,.agg (codS.A s)),(2,.slice A n c)]).run Tryz.prog w = .ok (.agg (codEv.A ⟨m,s,A,n,c⟩)) w:=by
 have e:codS.A s = #[.int .i64 s.T,.int .i64 s.R]:=by rw [Cod.A_eq];rfl
 rw [e,Cod.A_eq];go_simp;rfl
theorem ex_bldEv_at {ρ:Operand → Value} {o:Oper} {x y z:Operand} {w:World} {s:St} {m:List UInt8} {A:Option Addr} {n c:Nat} (ho:o.op = .build 85 #[(0,x),(1,y),(2,z)]) (hx:ρ x = .string (str m)) (hy:ρ y = .agg (codS.A s)) (hz:ρ z = .slice A n c) :
  (execOp ρ o).run Tryz.prog w = .ok (.value (.agg (codEv.A ⟨m,s,A,n,c⟩))) w:=by
 refine ex_buildG 85 ρ o #[(0,x),(1,y),(2,z)] w w _ ho ?_
 have:=bldEv w s m A n c
 simpa [hx,hy,hz] using this
theorem ex_alEv_at {ρ:Operand → Value} {o:Oper} (ho:o.op = .alloc 85) (w:World):(execOp ρ o).run Tryz.prog w = .ok (.value (.pointer (some ⟨w.heap.size,0,none⟩))) (w.alloc (codEv.o zEnW)):=okEv.alOp ρ o ho w
structure EvO (w:World) (r:EnW) (x:EnP):Prop where
 eq:x = ⟨r.Path,r.Node,x.Heads⟩
 len:x.Heads.length = r.n
 sl:Sl w r.A (codH.row x.Heads)
 bd:x.Heads.length ≤ 140737488355328
theorem EvO.fr {w w':World} {r:EnW} {x:EnP} (h:EvO w r x) (f:Fr noB w w'):EvO w' r x:=⟨h.eq,h.len,h.sl.fr0 f,h.bd⟩
theorem EvO.path {w:World} {r:EnW} {x:EnP} (h:EvO w r x):x.Path = r.Path:=by rw [h.eq]
theorem EvO.node {w:World} {r:EnW} {x:EnP} (h:EvO w r x):x.Node = r.Node:=by rw [h.eq]
def insB {α:Type} (f:α → List UInt8) (x:α):List α → List α
 | []=>[x]
 | y :: l=>if Op.bytesLess (f x) (f y) = true then x :: y :: l else y :: insB f x l
theorem AllO.insB {w:World} {r:EnW} {x:EnP} (hx:EvO w r x):∀ {rs:List EnW} {xs:List EnP},AllO EvO w rs xs → AllO EvO w (insB EnW.Path r rs) (insB EnP.Path x xs)
 | [],[],h=>AllO.cons hx h
 | [],_ :: _,h=>by have:=h.1;simp at this
 | _ :: _,[],h=>by have:=h.1;simp at this
 | a :: rs,b :: xs,h=>by
  obtain ⟨h1,h2⟩:=h.tail
  show AllO EvO w (if Op.bytesLess r.Path a.Path = true then _ else _) (if Op.bytesLess x.Path b.Path = true then _ else _)
  rw [hx.path,h1.path]
  split
  ·exact AllO.cons hx h
  ·exact AllO.cons h1 (AllO.insB hx h2)
def InsS (x:EnW) (os nx:List EnW) (done:Bool) (k:Nat):Prop:=insB EnW.Path x os = nx ++ (if done = true then os.drop k else insB EnW.Path x (os.drop k))
theorem InsS.zero (x:EnW) (os:List EnW):InsS x os [] false 0:=by simp [InsS]
theorem InsS.put {x:EnW} {os nx:List EnW} {k:Nat} (h:InsS x os nx false k) (hk:k < os.length) (hl:Op.bytesLess x.Path os[k].Path = true):InsS x os (nx ++ [x] ++ [os[k]]) true (k + 1):=by
 unfold InsS at h ⊢
 rw [h,List.drop_eq_getElem_cons hk]
 simp [insB,hl]
theorem InsS.skip {x:EnW} {os nx:List EnW} {k:Nat} (h:InsS x os nx false k) (hk:k < os.length) (hl:Op.bytesLess x.Path os[k].Path = false):InsS x os (nx ++ [os[k]]) false (k + 1):=by
 unfold InsS at h ⊢
 rw [h,List.drop_eq_getElem_cons hk]
 simp [insB,hl]
theorem InsS.on {x:EnW} {os nx:List EnW} {k:Nat} (h:InsS x os nx true k) (hk:k < os.length):InsS x os (nx ++ [os[k]]) true (k + 1):=by
 unfold InsS at h ⊢
 rw [h,List.drop_eq_getElem_cons hk]
 simp
theorem InsS.fin {x:EnW} {os nx:List EnW} {k:Nat} (hk:os.length ≤ k):(InsS x os nx true k → nx = insB EnW.Path x os) ∧ (InsS x os nx false k → nx ++ [x] = insB EnW.Path x os):=by
 unfold InsS
 rw [List.drop_eq_nil_of_le hk]
 exact ⟨fun h=>by rw [h];simp,fun h=>by rw [h];simp [insB]⟩
def refL (all:List RwP) (pt:RwP → List UInt8) (xs:List RwP):List EnP:=xs.foldl (fun acc x=>if liesR all x.Node zSt = true then insB EnP.Path ⟨pt x,x.Node,x.Heads⟩ acc else acc) []
theorem refL_snoc (all:List RwP) (pt:RwP → List UInt8) (xs:List RwP) (x:RwP):refL all pt (xs ++ [x]) = if liesR all x.Node zSt = true then insB EnP.Path ⟨pt x,x.Node,x.Heads⟩ (refL all pt xs) else refL all pt xs:=by simp [refL]
theorem insB_len {α:Type} (f:α → List UInt8) (x:α):∀ l:List α,(insB f x l).length = l.length + 1
 | []=>rfl
 | y :: l=>by unfold insB;split <;> simp [insB_len f x l]
theorem foldE_len (all:List RwP) (pt:RwP → List UInt8):∀ (xs:List RwP) (acc:List EnP),(xs.foldl (fun acc x=>if liesR all x.Node zSt = true then insB EnP.Path ⟨pt x,x.Node,x.Heads⟩ acc else acc) acc).length ≤ acc.length + xs.length
 | [],acc=>by simp
 | x :: xs,acc=>by
  refine Nat.le_trans (foldE_len all pt xs _) ?_
  simp only []
  split
  ·rw [insB_len];simp;omega
  ·simp
theorem refL_len (all:List RwP) (pt:RwP → List UInt8) (xs:List RwP):(refL all pt xs).length ≤ xs.length:=by
 have:=foldE_len all pt xs []
 simpa [refL] using this
theorem ex_ltS_at {ρ:Operand → Value} {o:Oper} {x y:Operand} {w:World} {a b:List UInt8} (ho:o.op = .binOp .lss 9 x y 9) (hx:ρ x = .string (str a)) (hy:ρ y = .string (str b)) :
  (execOp ρ o).run Tryz.prog w = .ok (.value (.bool (Op.bytesLess a b))) w:=by
 have ha:=str_toList a
 have hb:=str_toList b
 obtain ⟨d,op,t,p,f,g⟩:=o
 simp only at ho
 subst ho
 unfold execOp
 simp only [hx,hy]
 go_simp
set_option maxRecDepth 100000 in
set_option maxHeartbeats 4000000 in
theorem same17_any (w:World) (A B:Option Addr) (c d n m:Nat) (os qs:List EnW) (ys:List EnP) (hn:os.length = n) (hm:qs.length = m) (hA:Sl w A (codEn.row os)) (hB:Sl w B (codEv.row qs)) (hX:AllO EnO w os ys) (hY:AllO EvO w qs ys) (hb:os.length ≤ 1000000) :
  Calls Tryz.prog 20 #[.slice A n c,.slice B m d] w (Gives w (.bool true)):=by
 subst hn
 have hl:qs.length = os.length:=by rw [hX.1,hY.1]
 subst hm
 rw [hl]
 have HL:=Lib.hid hl
 have HA:=Lib.hid hA
 have HB:=Lib.hid hB
 have HX:=Lib.hid hX
 have HY:=Lib.hid hY
 have HN:=Lib.hid hb
 clear hl hA hB hX hY hb
 go_enter Tryz.func20,Tryz.ntmps20
 go_wp2_with fail
 go_loopg [13] os.length (fun gk iv wr=>∃ k:Nat,iv = .int .i64 (k:Int) ∧ gk = os.length - k ∧ k ≤ os.length ∧ Fr noB w wr)
 case atStart=>exact ⟨0,rfl,rfl,by omega,Fr.refl _ _⟩
 case round =>
  obtain ⟨k,rfl,rfl,hk,hf⟩:=hrel
  have HF:=Lib.hid hf
  clear hf
  by_cases hlt:k < os.length
  ·have i1:(k:Int) < (os.length:Int):=by omega
   have i0:(0:Int) ≤ (k:Int):=by omega
   have hq:k < qs.length:=by rw [HL.out];exact hlt
   have hy:k < ys.length:=by rw [← HX.out.1];exact hlt
   obtain ⟨g,off,rfl,hg⟩:=HA.out.addr (by omega)
   obtain ⟨g2,off2,rfl,hg2⟩:=HB.out.addr (by omega)
   have ra:=enAtO (Sl.rd (HA.out.fr0 HF.out) k hlt)
   have rb:=evAtO (Sl.rd (HB.out.fr0 HF.out) k hq)
   have ha:=HX.out.2 k hlt hy
   have hbb:=HY.out.2 k hq hy
   have a1:=ra.path
   have a2:=ra.node
   have a3:=ra.heads
   have b1:=rb.path
   have b2:=rb.node
   have b3:=rb.heads
   rw [← ha.path] at a1
   rw [← ha.node] at a2
   rw [← ha.len] at a3
   rw [← hbb.path] at b1
   rw [← hbb.node] at b2
   rw [← hbb.len] at b3
   have ho:=ha.own
   rw [← ha.len] at ho
   have sa:Sl w os[k].A (codH.row ys[k].Heads):=Sl.own ho
   have sb:=hbb.sl
   have sd:=hbb.bd
   generalize os[k].A = A1 at a3 sa
   generalize os[k].c = c1 at a3
   generalize qs[k].A = A2 at b3 sb
   generalize qs[k].c = c2 at b3
   generalize ys[k].Path = p at a1 b1
   generalize ys[k].Node = nd at a2 b2
   generalize ys[k].Heads = hd at a3 b3 sa sb sd
   have SH:=Lib.hid (fun w' (f:Fr noB w w')=>same_heads w' A1 A2 c1 c2 hd.length hd.length hd rfl rfl (sa.fr0 f) (sb.fr0 f) sd)
   have HLT:=Lib.hid hlt
   have wk:wrap64 ((k:Int) + 1) = (k:Int) + 1:=IntWalk.wrap64_in _ (by have:=HN.out;omega)
   clear ra rb ha hbb ho sa sb sd hlt hq hy hg hg2 hk
   go_upto_region 6 with fail
   have fd:Fr noB wr wr.drew:=(Fr.refl noB _).drew
   have keep:∀ w' w'':World,Fr noB w' w'' → (w'.cell? ⟨g,off + k * 4,none⟩ = some (.string (str p)) ∧ codS.rd w' g (off + k * 4 + 1) = some nd ∧ w'.cell? ⟨g,off + k * 4 + 3,none⟩ = some (.slice A1 hd.length c1) ∧ w'.cell? ⟨g2,off2 + k * 4,none⟩ = some (.string (str p)) ∧ codS.rd w' g2 (off2 + k * 4 + 1) = some nd ∧ w'.cell? ⟨g2,off2 + k * 4 + 3,none⟩ = some (.slice A2 hd.length c2)) → (w''.cell? ⟨g,off + k * 4,none⟩ = some (.string (str p)) ∧ codS.rd w'' g (off + k * 4 + 1) = some nd ∧ w''.cell? ⟨g,off + k * 4 + 3,none⟩ = some (.slice A1 hd.length c1) ∧ w''.cell? ⟨g2,off2 + k * 4,none⟩ = some (.string (str p)) ∧ codS.rd w'' g2 (off2 + k * 4 + 1) = some nd ∧ w''.cell? ⟨g2,off2 + k * 4 + 3,none⟩ = some (.slice A2 hd.length c2)):=fun w' w'' f h=>⟨cell_fr0 h.1 f,Cod.rd_fr0 h.2.1 f,cell_fr0 h.2.2.1 f,cell_fr0 h.2.2.2.1 f,Cod.rd_fr0 h.2.2.2.2.1 f,cell_fr0 h.2.2.2.2.2 f⟩
   have hF0:=keep wr wr.drew fd ⟨a1,a2,a3,b1,b2,b3⟩
   have FD:=Lib.hid (HF.out.step0 fd)
   clear a1 a2 a3 b1 b2 b3 fd
   refine wp_region_M 37 38 [⟨65536,1,0⟩,⟨131072,32,0⟩,⟨262144,196608,3⟩,⟨524288,262144,4⟩,⟨1048576,524288,8⟩,⟨2097152,2,0⟩,⟨4194304,32,0⟩,⟨8388608,6291456,96⟩,⟨16777216,8388608,128⟩,⟨33554432,16777216,256⟩,⟨67108864,34603008,528⟩,⟨134217728,67108864,1024⟩,⟨268435456,134217729,2048⟩,⟨536870912,134217760,2048⟩,⟨1073741824,939524096,14336⟩,⟨2147483648,1207959552,18432⟩,⟨4294967296,2281701376,34816⟩,⟨8589934592,134217730,2048⟩,⟨17179869184,134217760,2048⟩,⟨34359738368,25904021504,395264⟩,⟨68719476736,34493956096,526336⟩,⟨137438953472,68853694464,1050624⟩,⟨274877906944,141868138496,2164736⟩,⟨549755813888,275012124672,4196352⟩,⟨1099511627776,549755813888,8390656⟩,⟨2199023255552,1099511627777,16777216⟩,⟨4398046511104,1099511627808,16777216⟩,⟨8796093022208,7696581394432,117440512⟩,⟨17592186044416,9895604649984,150994944⟩,⟨35184372088832,18691697672192,285212672⟩,⟨70368744177664,1099511627778,16777216⟩,⟨140737488355328,1099511627808,16777216⟩,⟨281474976710656,212205744160768,3238002688⟩,⟨562949953421312,282574488338432,4311744512⟩,⟨1125899906842624,564049465049088,8606711808⟩,⟨2251799813685248,1162183790559232,17733517312⟩,⟨4503599627370496,2252899325313024,34376515584⟩,⟨9007199254740992,4504699138998272,68736253952⟩] [(true,0),(true,1),(true,2),(true,3),(true,4),(true,5),(true,6),(true,7),(true,8),(true,9),(true,10),(true,11),(true,12),(true,13),(true,14),(true,15),(true,16),(true,17),(true,18),(true,19),(true,20),(true,21),(true,22),(true,23),(true,24),(true,25),(true,26),(true,27),(true,28),(true,29),(true,30),(true,31),(true,32),(true,33),(true,34),(false,35),(true,36)] (fun w'=>w'.cell? ⟨g,off + k * 4,none⟩ = some (.string (str p)) ∧ codS.rd w' g (off + k * 4 + 1) = some nd ∧ w'.cell? ⟨g,off + k * 4 + 3,none⟩ = some (.slice A1 hd.length c1) ∧ w'.cell? ⟨g2,off2 + k * 4,none⟩ = some (.string (str p)) ∧ codS.rd w' g2 (off2 + k * 4 + 1) = some nd ∧ w'.cell? ⟨g2,off2 + k * 4 + 3,none⟩ = some (.slice A2 hd.length c2)) (by kernel_rfl) rfl (by kernel_rfl) (by kernel_rfl) (by kernel_rfl) hF0 (fun hA hF=>?_)
   clear hF0
   generalize wr.drew = V at hF FD ⊢
   iterate 35
    refine wpAnyS_take (v:=?_) hA rfl (fun _ _ _ h=>h) (Or.inl ⟨by rfl,?_⟩) hF (fun hA=>?_)
    rotate_left
    ·intro wS hSw;(try dsimp only at hSw);obtain ⟨s1,s2,s3,s4,s5,s6⟩:=hSw;first | (apply Eq.trans;apply ex_ldS_at;exact rfl;exact rfl;assumption;with_reducible rfl) | (go_simp;try with_reducible rfl)
    try simp only [sA1,sA2,sA3,Act.put,sA4,sA5,sA6]
   refine wpAnyS_one hA rfl (fun K' hK=>?_)
   rw [if_pos (by rfl)]
   go_simp
   go_at_call 37
   refine (SH.out V FD.out).mono ?_
   rintro e w5 ⟨rfl,f5⟩
   replace hF:=keep _ _ f5 hF
   refine hK.out _ _ hF (fun hA=>?_)
   clear hK K'
   try simp only [sA1,sA2,sA3,Act.put,sA4,sA5,sA6]
   refine wpAnyS_take (v:=?_) hA rfl (fun _ _ _ h=>h) (Or.inl ⟨by rfl,?_⟩) hF (fun hA=>?_)
   rotate_left
   ·intro wS hSw;(try dsimp only at hSw);obtain ⟨s1,s2,s3,s4,s5,s6⟩:=hSw;first | (apply Eq.trans;apply ex_ldS_at;exact rfl;exact rfl;assumption;with_reducible rfl) | (go_simp;try with_reducible rfl)
   try simp only [sA1,sA2,sA3,Act.put,sA4,sA5,sA6]
   refine wpAnyS_end hA rfl ?_
   simp only [List.drop_succ_cons,List.drop_zero]
   clear hF keep
   go_wp2_with fail
   go_roundg (os.length - (k + 1))
   case measure=>have:=HLT.out;omega
   case rel=>exact ⟨k + 1,by first | exact congrArg (Value.int .i64) wk | simp,rfl,by have:=HLT.out;omega,FD.out.step0 f5⟩
  ·have i1:¬ (k:Int) < (os.length:Int):=by omega
   go_wp2_with fail
   go_ret
   exact ⟨rfl,HF.out⟩
end Go.Proofs.YthehiobacjjakaaGreatDoor
