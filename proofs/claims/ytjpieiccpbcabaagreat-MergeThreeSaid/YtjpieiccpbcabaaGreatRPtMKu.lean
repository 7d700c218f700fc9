/- Contract: the reference's Put (sets of IDs made one by one). (ex_ld_arr, rdI) -/
import Derived.Test.YtjpieiccpbcabaaGreatR3bKu
import Derived.Test.YtjpieiccpbcabaaGreatFrameOKu
set_option linter.unusedVariables false
set_option linter.unusedSimpArgs false
namespace Go.Proofs.YtjpieiccpbcabaaGreat
open Go.RowKit Go.Maps Go.Sort Go.Shelf
def ptW4 (x:ID):Bool → List ID → List ID
 | d,[]=>if d then [] else [x]
 | true,y :: l=>y :: l
 | false,y :: l=>if cmpI y x < 0 then y :: ptW4 x false l else if cmpI y x = 0 then y :: l else x :: y :: l
def ptS4 (l:List ID) (x:ID):List ID:=ptW4 x (decide (x = zID)) l
theorem ptW4_true (x:ID) (l:List ID):ptW4 x true l = l:=by cases l <;> rfl
/-! rows of arrays -/
abbrev rowr (l:List ID):Obj:=.cells (idR l) 23
theorem sl_newR (w:World) (l:List ID):Sl (w.alloc (rowr l)) (some ⟨w.heap.size,0,none⟩) (idc l):=by
 simp only [rowr,idR_eq];exact Sl.new w 23 (idc l)
theorem bsR_1 (w:World) (x:ID):(Instr.buildSlice 45 1 #[(0,encI x)]).run Tryz.prog w = .ok (.slice (some ⟨w.heap.size,0,none⟩) 1 1) (w.alloc (rowr [x])):=by
 have h1:Instr.fill (fun i=>some (i * 32,32)) ([] ++ z32 ++ []).toArray [(0,encI x)] = some (idc [x]).toArray :=
  (fill_one (fun i=>some (i * 32,32)) [] z32 [] (bv x.1) 0 (encI x) [] (cellsI x) (by simp [x.2]) (by simp [x.2,z32_len])).trans (by simp [Instr.fill,idc])
 simp only [Instr.buildSlice,Sem.run_bind,run_underlying Tryz.underlying45,Result.andThen_ok,sizeArr,zeroArr]
 simp only [show (1 * 32 > 2 ^ 24) = False from by simp,show (1 * 32 = 0) = False from by simp,if_false,Sem.run_bind,zeroArr,Result.andThen_ok,Sem.run_pure,zs1,h1]
 simp [newRow,newObj,rowr,idR_eq,Sem.run,Result.andThen]
@[irreducible] noncomputable def bsR1 (w:World) (v:Value):Result Next:=((Instr.buildSlice 45 1 #[(0,v)]).run Tryz.prog w).andThen (fun v w=>.ok (.value v) w)
@[simp ↓] theorem ex_bsR1 (ρ:Operand → Value) (a:Operand) (d:Option Nat) (t:TypeId) (p:String) (f:Array Edge) (g:Option (Nat × Bool)) (w:World) :
  (execOp ρ { dst:=d,op:=.buildSlice 45 1 #[(0,a)],type:=t,pos:=p,after:=f,guard:=g }).run Tryz.prog w = bsR1 w (ρ a):=by
 unfold execOp bsR1
 simp only [List.map_toArray,List.map_cons,List.map_nil,Sem.run_bind,Sem.run_pure]
@[simp] theorem bsR1_at (w:World) (x:ID):bsR1 w (encI x) = .ok (.value (.slice (some ⟨w.heap.size,0,none⟩) 1 1)) (w.alloc (rowr [x])):=by
 unfold bsR1;rw [bsR_1];rfl
theorem etArrs:ET Tryz.prog 45 23 32 32:=ET.mk' (z:=.agg (bv zID.1).toArray) Tryz.underlying45 (by kernel_rfl) (by simp [Value.cells,zID]) (by decide) (by decide)
abbrev OwnR (w0 w:World) (A:Option Addr) (c:Nat) (l:List ID):Prop:=w.ownsRow w0.heap.size 23 32 (.slice A l.length c) l.length (idc l)
theorem own_idr {w:World} {base:Nat} {n:Nat} {v:Value} {l:List ID} (h:w.ownsRow base 23 32 v n (idc l)):w.ownsRow base 23 32 v l.length (idc l):=by
 have hn:n = l.length:=by have:=h.1;rw [idc_length] at this;omega
 subst hn;exact h
theorem wpList_appR (w0 w:World) {ops:Array Oper} {rest:List Oper} {o:Oper} {a:Act} {Q:Exit → Act → World → Prop} (hgd:o.guard = none) (s x:Operand)
  (ho:o.op = .call { callee:=.builtin .append,args:=#[s,x],argTypes:=#[45,45] })
  (As:Option Addr) (ns cs:Nat) (lo:List ID) (hs:a.eval s = .slice As ns cs) (hns:lo.length = ns) (hown:OwnR w0 w As cs lo)
  (A:Option Addr) (m c:Nat) (news:List ID) (hx:a.eval x = .slice A m c) (hr:Sl w A (idc news)) (hl:news.length = m)
  (hbytes:lo.length + news.length ≤ 1000000000000) (hbase:w0.heap.size ≤ w.heap.size)
  (h:∀ A' c' w',(lo ++ news).length ≤ c' → c' ≤ maxLen → OwnR w0 w' A' c' (lo ++ news) → w.grownBy w' (As.map (·.block)) →
   (A'.map (·.block) = As.map (·.block) ∨ A'.map (·.block) = some w.heap.size) → wpList Tryz.prog ops Q rest (a.put o.dst (.slice A' (lo ++ news).length c')) w') :
  wpList Tryz.prog ops Q (o :: rest) a w:=by
 subst hns
 refine wpList_app w etArrs hgd s x ho w0.heap.size _ lo.length (idc lo) hs hown A m c (idc news) hx hr (by rw [idc_length,hl]) (idc_one _) (by rw [← hl];omega) hbase ?_
 intro v' w' h1 h2 h3
 rw [← idc_append] at h1
 have h1':=own_idr h1
 obtain ⟨A',c',rfl,hc1,hc2⟩:=own_form h1'
 rw [ownBlock_sl',ownBlock_sl'] at h3
 rw [ownBlock_sl'] at h2
 exact h A' c' w' hc1 hc2 h1' h2 h3
theorem wpList_appY (w0 w:World) {ops:Array Oper} {rest:List Oper} {o:Oper} {a:Act} {Q:Exit → Act → World → Prop} (hgd:o.guard = none) (s x:Operand)
  (ho:o.op = .call { callee:=.builtin .append,args:=#[s,x],argTypes:=#[45,45] })
  (As:Option Addr) (ns cs:Nat) (lo:List ID) (hs:a.eval s = .slice As ns cs) (hns:lo.length = ns) (hown:OwnR w0 w As cs lo)
  (A:Option Addr) (c:Nat) (y:ID) (hx:a.eval x = .slice A 1 c) (hr:Sl w A (idc [y])) (hb:lo.length ≤ 100000000001) (f:Fr noB w0 w)
  (h:∀ A' c' w',OwnR w0 w' A' c' (lo ++ [y]) → Fr noB w0 w' → wpList Tryz.prog ops Q rest (a.put o.dst (.slice A' (lo ++ [y]).length c')) w') :
  wpList Tryz.prog ops Q (o :: rest) a w:=by
 refine wpList_appR w0 w hgd s x ho As ns cs lo hs hns hown A 1 c [y] hx hr rfl (by simp only [List.length_cons,List.length_nil];omega) f.size ?_
 intro A' c' w' _ _ h1 h2 _
 refine h A' c' w' h1 (f.step (M':=fun b=>As.map (·.block) = some b) (Fr.ofGrown h2 (fun g hg=>hg)) (fun b hb=>.inl ?_))
 cases As with
 | none=>cases hb
 | some a=>simp only [Option.map_some,Option.some.injEq] at hb;rw [← hb];exact (hown.lt _ (by simp [Value.ownBlock])).1
theorem rd_arr (w:World) (x:ID):rdI (w.alloc (aro x)) w.heap.size 0 = some x:=Rd.rdI fun j v hv=>by rw [Nat.zero_add];exact ((blk_arr w x).cell j).trans hv
def SetTo (w:World) (l:List ID) (e:Ending) (w':World):Prop:=∃ A c,e = .returned (.slice A l.length c) ∧ Sl w' A (idc l) ∧ Fr noB w w'
def PtR (w:World) (l:List ID) (x:ID) (gk:Nat) (ov dv iv:Value) (wr:World):Prop:=∃ (k:Nat) (A:Option Addr) (c:Nat) (o:List ID) (d:Bool),iv = .int .i64 (k:Int) ∧ gk = l.length - k ∧ k ≤ l.length ∧ ov = .slice A o.length c ∧ dv = .bool d ∧ OwnR w wr A c o ∧ o.length ≤ k + 1 ∧ (d = false → o.length ≤ k) ∧ ptS4 l x = o ++ ptW4 x d (l.drop k) ∧ Fr noB w wr
set_option maxRecDepth 100000 in
set_option maxHeartbeats 4000000 in
theorem r4putid_any (w:World) (A0:Option Addr) (c0 n:Nat) (l:List ID) (hn:l.length = n) (hs:Sl w A0 (idc l)) (hb:l.length ≤ 100000000000) (x:ID) (r:List ID) (hr:ptS4 l x = r):Calls Tryz.prog 28 #[.slice A0 n c0,encI x] w (SetTo w r):=by
 subst hn
 have HRR:=Lib.hid hr
 clear hr
 have b1:=rd_arr w x
 have f0:Fr noB w (w.alloc (aro x)):=(Fr.refl noB w).alloc _
 have s1:(w.alloc (aro x)).heap.size = w.heap.size + 1:=World.size_alloc ..
 go_enter Tryz.func28,Tryz.ntmps28
 go_upto_region 1 with fail
 generalize w.alloc (aro x) = wb at b1 f0 s1 ⊢
 have hs1:=hs.fr0 f0
 have fb1:Fr noB wb (wb.alloc (.cells #[] 23)):=(Fr.refl noB wb).alloc _
 have ow:OwnR wb (wb.alloc (.cells #[] 23)) (some ⟨wb.heap.size,0,none⟩) 0 [] :=
  World.ownsRow_lit (base:=wb.heap.size) (e:=23) (size:=32) wb #[] 0 (Nat.le_refl _) (by simp [maxLen]) rfl
 have b1':=rdI_fr b1 (rdI_lt b1) fb1 (by simp [noB])
 go_upto_region 3 with (go_at_call 58;refine (r4zero_any _ x).mono ?_;rintro e w2 ⟨rfl,f2⟩)
 clear b1'
 have f3:=fb1.step0 f2
 replace ow:OwnR wb w2 (some ⟨wb.heap.size,0,none⟩) 0 []:=own_fr ow f2 (fun _ _=>by simp [noB])
 rw [s1] at ow
 generalize hP:w.heap.size = P at b1 ow ⊢
 generalize hd0:decide (x = zID) = d0
 have HD0:=Lib.hid hd0
 clear hd0
 go_upto_region 4 with fail
 go_loopg [5,6,7] l.length (fun gk ov dv iv wr=>PtR wb l x gk ov dv iv wr)
 case atStart=>exact ⟨0,_,0,[],d0,rfl,rfl,by omega,rfl,rfl,ow,by simp,by simp,by rw [← HD0.out];rfl,f3⟩
 case round =>
  obtain ⟨k,A,c,o,d,rfl,rfl,hk,rfl,rfl,ho,hol,hol2,hi,hf⟩:=hrel
  have HI:=Lib.hid hi
  clear hi ow fb1 f2 f3
  have b2:=rdI_fr b1 (rdI_lt b1) hf (by simp [noB])
  have hPw:=rdI_lt b2
  by_cases hlt:k < l.length
  ·have i1:(k:Int) < (l.length:Int):=by omega
   have i0:(0:Int) ≤ (k:Int):=by omega
   obtain ⟨g,off,rfl⟩:=hs1.ad (by omega)
   have ry0:=hs1.id k hlt
   have ry:=(hs1.fr0 hf).id k hlt
   have hgw:=rdI_lt ry
   have hdr:l.drop k = l[k] :: l.drop (k + 1):=List.drop_eq_getElem_cons hlt
   generalize l[k] = y at ry ry0 hdr
   have HD:=Lib.hid hdr
   clear hdr
   have hc3:cmpI y x = -1 ∨ cmpI y x = 0 ∨ cmpI y x = 1:=cb_range y.1 x.1
   rcases hc3 with hc | hc | hc
   ·have HC:=Lib.hid hc
    clear hc
    have C1:∀ w,Calls Tryz.prog 59 #[encI y,encI x] w (Gives w (.int .i64 (-1))):=fun w=>Gives.val (rcmp_any w y x) (by rw [HC.out])
    go_upto_region 6 with fail
    refine wp_region_fr (by kernel_rfl) (by kernel_rfl) ?_
    iterate 5
     refine wpQ_take (v:=?_) (by rfl) (fun wS hS=>?_) ?_
     rotate_left
     ·obtain ⟨L1,L2,L3,L4,L5,L6⟩:=Fr.same hS;go_simp;try with_reducible rfl
     try simp only [sA1,sA2,sA3,Act.put,sA4,sA5,sA6]
    refine wpQ_call (by rfl) (fun wS hS=>⟨_,_,?qh134,Calls.fr hS (C1 _)⟩) ?qk134
    case qh134=>obtain ⟨L1,L2,L3,L4,L5,L6⟩:=Fr.same hS;go_simp;try with_reducible rfl
    try simp only [sA1,sA2,sA3,Act.put,sA4,sA5,sA6]
    refine wpQ_take (v:=?_) (by rfl) (fun wS hS=>?_) ?_
    rotate_left
    ·obtain ⟨L1,L2,L3,L4,L5,L6⟩:=Fr.same hS;go_simp;try with_reducible rfl
    try simp only [sA1,sA2,sA3,Act.put,sA4,sA5,sA6]
    refine wpQ_nil ?_
    intro w1 f1
    have fu:Fr noB wb w1:=hf.step0 f1
    have hou:OwnR wb w1 A c o:=own_fr ho f1 (fun _ _=>by simp [noB])
    have by1:=rdI_fr ry (rdI_lt ry) f1 (by simp [noB])
    have bx1:=rdI_fr b2 (rdI_lt b2) f1 (by simp [noB])
    clear C1 f1
    cases d with
    | true =>
     have sly:=sl_newR w1 [y]
     have fay:Fr noB w1 (World.alloc w1 (rowr [y])):=(Fr.refl noB w1).alloc _
     have fby:=Fr.step0 fu fay
     have hoay:OwnR wb (World.alloc w1 (rowr [y])) A c o:=own_fr hou fay (fun _ _=>by simp [noB])
     have hly:(o).length ≤ 100000000001:=by (try simp only [List.length_append,List.length_cons,List.length_nil]);omega
     go_wp2_with (at_builtin;refine wpList_appY wb _ rfl _ _ rfl A _ c o rfl rfl hoay _ _ y rfl sly hly fby ?_;intro A7 c7 w7 ho7 f7)
     go_roundg (l.length - (k + 1))
     case measure=>omega
     case rel=>exact ⟨k + 1,A7,c7,o ++ [y],true,by simp,rfl,by omega,by first | rfl | simp,rfl,ho7,by simp only [List.length_append,List.length_cons,List.length_nil];omega,by intro hdd;first | (cases hdd;done) | (simp only [List.length_append,List.length_cons,List.length_nil];omega),by rw [HI.out,HD.out,List.append_assoc];(rw [ptW4_true,ptW4_true];rfl),f7⟩
    | false =>
     replace hol2:=hol2 rfl
     have sly:=sl_newR w1 [y]
     have fay:Fr noB w1 (World.alloc w1 (rowr [y])):=(Fr.refl noB w1).alloc _
     have fby:=Fr.step0 fu fay
     have hoay:OwnR wb (World.alloc w1 (rowr [y])) A c o:=own_fr hou fay (fun _ _=>by simp [noB])
     have hly:(o).length ≤ 100000000001:=by (try simp only [List.length_append,List.length_cons,List.length_nil]);omega
     go_wp2_with (at_builtin;refine wpList_appY wb _ rfl _ _ rfl A _ c o rfl rfl hoay _ _ y rfl sly hly fby ?_;intro A7 c7 w7 ho7 f7)
     go_roundg (l.length - (k + 1))
     case measure=>omega
     case rel=>exact ⟨k + 1,A7,c7,o ++ [y],false,by simp,rfl,by omega,by first | rfl | simp,rfl,ho7,by simp only [List.length_append,List.length_cons,List.length_nil];omega,by intro hdd;first | (cases hdd;done) | (simp only [List.length_append,List.length_cons,List.length_nil];omega),by rw [HI.out,HD.out,List.append_assoc];(simp [ptW4,HC.out]),f7⟩
   ·have HC:=Lib.hid hc
    clear hc
    have C1:∀ w,Calls Tryz.prog 59 #[encI y,encI x] w (Gives w (.int .i64 (0))):=fun w=>Gives.val (rcmp_any w y x) (by rw [HC.out])
    go_upto_region 6 with fail
    refine wp_region_fr (by kernel_rfl) (by kernel_rfl) ?_
    iterate 5
     refine wpQ_take (v:=?_) (by rfl) (fun wS hS=>?_) ?_
     rotate_left
     ·obtain ⟨L1,L2,L3,L4,L5,L6⟩:=Fr.same hS;go_simp;try with_reducible rfl
     try simp only [sA1,sA2,sA3,Act.put,sA4,sA5,sA6]
    refine wpQ_call (by rfl) (fun wS hS=>⟨_,_,?qh180,Calls.fr hS (C1 _)⟩) ?qk180
    case qh180=>obtain ⟨L1,L2,L3,L4,L5,L6⟩:=Fr.same hS;go_simp;try with_reducible rfl
    try simp only [sA1,sA2,sA3,Act.put,sA4,sA5,sA6]
    refine wpQ_take (v:=?_) (by rfl) (fun wS hS=>?_) ?_
    rotate_left
    ·obtain ⟨L1,L2,L3,L4,L5,L6⟩:=Fr.same hS;go_simp;try with_reducible rfl
    try simp only [sA1,sA2,sA3,Act.put,sA4,sA5,sA6]
    refine wpQ_nil ?_
    intro w1 f1
    have fu:Fr noB wb w1:=hf.step0 f1
    have hou:OwnR wb w1 A c o:=own_fr ho f1 (fun _ _=>by simp [noB])
    have by1:=rdI_fr ry (rdI_lt ry) f1 (by simp [noB])
    have bx1:=rdI_fr b2 (rdI_lt b2) f1 (by simp [noB])
    clear C1 f1
    cases d with
    | true =>
     have sly:=sl_newR w1 [y]
     have fay:Fr noB w1 (World.alloc w1 (rowr [y])):=(Fr.refl noB w1).alloc _
     have fby:=Fr.step0 fu fay
     have hoay:OwnR wb (World.alloc w1 (rowr [y])) A c o:=own_fr hou fay (fun _ _=>by simp [noB])
     have hly:(o).length ≤ 100000000001:=by (try simp only [List.length_append,List.length_cons,List.length_nil]);omega
     go_wp2_with (at_builtin;refine wpList_appY wb _ rfl _ _ rfl A _ c o rfl rfl hoay _ _ y rfl sly hly fby ?_;intro A7 c7 w7 ho7 f7)
     go_roundg (l.length - (k + 1))
     case measure=>omega
     case rel=>exact ⟨k + 1,A7,c7,o ++ [y],true,by simp,rfl,by omega,by first | rfl | simp,rfl,ho7,by simp only [List.length_append,List.length_cons,List.length_nil];omega,by intro hdd;first | (cases hdd;done) | (simp only [List.length_append,List.length_cons,List.length_nil];omega),by rw [HI.out,HD.out,List.append_assoc];(rw [ptW4_true,ptW4_true];rfl),f7⟩
    | false =>
     replace hol2:=hol2 rfl
     have sly:=sl_newR w1 [y]
     have fay:Fr noB w1 (World.alloc w1 (rowr [y])):=(Fr.refl noB w1).alloc _
     have fby:=Fr.step0 fu fay
     have hoay:OwnR wb (World.alloc w1 (rowr [y])) A c o:=own_fr hou fay (fun _ _=>by simp [noB])
     have hly:(o).length ≤ 100000000001:=by (try simp only [List.length_append,List.length_cons,List.length_nil]);omega
     go_wp2_with (at_builtin;refine wpList_appY wb _ rfl _ _ rfl A _ c o rfl rfl hoay _ _ y rfl sly hly fby ?_;intro A7 c7 w7 ho7 f7)
     go_roundg (l.length - (k + 1))
     case measure=>omega
     case rel=>exact ⟨k + 1,A7,c7,o ++ [y],true,by simp,rfl,by omega,by first | rfl | simp,rfl,ho7,by simp only [List.length_append,List.length_cons,List.length_nil];omega,by intro hdd;first | (cases hdd;done) | (simp only [List.length_append,List.length_cons,List.length_nil];omega),by rw [HI.out,HD.out,List.append_assoc];(rw [ptW4_true];simp [ptW4,HC.out]),f7⟩
   ·have HC:=Lib.hid hc
    clear hc
    have C1:∀ w,Calls Tryz.prog 59 #[encI y,encI x] w (Gives w (.int .i64 (1))):=fun w=>Gives.val (rcmp_any w y x) (by rw [HC.out])
    go_upto_region 6 with fail
    refine wp_region_fr (by kernel_rfl) (by kernel_rfl) ?_
    iterate 5
     refine wpQ_take (v:=?_) (by rfl) (fun wS hS=>?_) ?_
     rotate_left
     ·obtain ⟨L1,L2,L3,L4,L5,L6⟩:=Fr.same hS;go_simp;try with_reducible rfl
     try simp only [sA1,sA2,sA3,Act.put,sA4,sA5,sA6]
    refine wpQ_call (by rfl) (fun wS hS=>⟨_,_,?qh226,Calls.fr hS (C1 _)⟩) ?qk226
    case qh226=>obtain ⟨L1,L2,L3,L4,L5,L6⟩:=Fr.same hS;go_simp;try with_reducible rfl
    try simp only [sA1,sA2,sA3,Act.put,sA4,sA5,sA6]
    refine wpQ_take (v:=?_) (by rfl) (fun wS hS=>?_) ?_
    rotate_left
    ·obtain ⟨L1,L2,L3,L4,L5,L6⟩:=Fr.same hS;go_simp;try with_reducible rfl
    try simp only [sA1,sA2,sA3,Act.put,sA4,sA5,sA6]
    refine wpQ_nil ?_
    intro w1 f1
    have fu:Fr noB wb w1:=hf.step0 f1
    have hou:OwnR wb w1 A c o:=own_fr ho f1 (fun _ _=>by simp [noB])
    have by1:=rdI_fr ry (rdI_lt ry) f1 (by simp [noB])
    have bx1:=rdI_fr b2 (rdI_lt b2) f1 (by simp [noB])
    clear C1 f1
    cases d with
    | true =>
     have sly:=sl_newR w1 [y]
     have fay:Fr noB w1 (World.alloc w1 (rowr [y])):=(Fr.refl noB w1).alloc _
     have fby:=Fr.step0 fu fay
     have hoay:OwnR wb (World.alloc w1 (rowr [y])) A c o:=own_fr hou fay (fun _ _=>by simp [noB])
     have hly:(o).length ≤ 100000000001:=by (try simp only [List.length_append,List.length_cons,List.length_nil]);omega
     go_wp2_with (at_builtin;refine wpList_appY wb _ rfl _ _ rfl A _ c o rfl rfl hoay _ _ y rfl sly hly fby ?_;intro A7 c7 w7 ho7 f7)
     go_roundg (l.length - (k + 1))
     case measure=>omega
     case rel=>exact ⟨k + 1,A7,c7,o ++ [y],true,by simp,rfl,by omega,by first | rfl | simp,rfl,ho7,by simp only [List.length_append,List.length_cons,List.length_nil];omega,by intro hdd;first | (cases hdd;done) | (simp only [List.length_append,List.length_cons,List.length_nil];omega),by rw [HI.out,HD.out,List.append_assoc];(rw [ptW4_true,ptW4_true];rfl),f7⟩
    | false =>
     replace hol2:=hol2 rfl
     have slx:=sl_newR w1 [x]
     have fax:Fr noB w1 (World.alloc w1 (rowr [x])):=(Fr.refl noB w1).alloc _
     have fbx:=Fr.step0 fu fax
     have hoax:OwnR wb (World.alloc w1 (rowr [x])) A c o:=own_fr hou fax (fun _ _=>by simp [noB])
     have hlx:(o).length ≤ 100000000001:=by (try simp only [List.length_append,List.length_cons,List.length_nil]);omega
     go_wp2_with (first
      | (at_builtin;refine wpList_appY wb _ rfl _ _ rfl A _ c o rfl rfl hoax _ _ x rfl slx hlx fbx ?_;intro A6 c6 w6 ho6 f6;have ry6:=rdI_fr ry0 (rdI_lt ry0) f6 (by simp [noB]);clear by1;have sly:=sl_newR w6 [y];have fay:Fr noB w6 (World.alloc w6 (rowr [y])):=(Fr.refl noB w6).alloc _;have fby:=Fr.step0 f6 fay;have hoay:OwnR wb (World.alloc w6 (rowr [y])) A6 c6 (o ++ [x]):=own_fr ho6 fay (fun _ _=>by simp [noB]);have hly:(o ++ [x]).length ≤ 100000000001:=by (try simp only [List.length_append,List.length_cons,List.length_nil]);omega)
      | (at_builtin;refine wpList_appY wb _ rfl _ _ rfl A6 _ c6 (o ++ [x]) rfl (by first | rfl | simp) hoay _ _ y rfl sly hly fby ?_;intro A7 c7 w7 ho7 f7))
     go_roundg (l.length - (k + 1))
     case measure=>omega
     case rel=>exact ⟨k + 1,A7,c7,o ++ [x] ++ [y],true,by simp,rfl,by omega,by first | rfl | simp,rfl,ho7,by simp only [List.length_append,List.length_cons,List.length_nil];omega,(by intro hdd;cases hdd),by rw [HI.out,HD.out,ptW4_true];simp [ptW4,HC.out],f7⟩
  ·have ek:k = l.length:=by omega
   subst ek
   have hdr:l.drop l.length = []:=List.drop_length ..
   have HD:=Lib.hid hdr
   clear hdr
   have i1:¬ (l.length:Int) < (l.length:Int):=by omega
   cases d with
   | true =>
    go_wp2_with fail
    go_ret
    have e:r = o:=by rw [← HRR.out,HI.out,HD.out];simp [ptW4]
    rw [e]
    exact ⟨A,c,rfl,Sl.own ho,f0.step0 hf⟩
   | false =>
    have slx:=sl_newR wr [x]
    have fax:Fr noB wr (World.alloc wr (rowr [x])):=(Fr.refl noB wr).alloc _
    have fbx:=Fr.step0 hf fax
    have hoax:OwnR wb (World.alloc wr (rowr [x])) A c o:=own_fr ho fax (fun _ _=>by simp [noB])
    have hlx:(o).length ≤ 100000000001:=by (try simp only [List.length_append,List.length_cons,List.length_nil]);omega
    have rx10:=rdI_fr b2 (rdI_lt b2) fax (by simp [noB])
    go_wp2_with (at_builtin;refine wpList_appY wb _ rfl _ _ rfl A _ c o rfl rfl hoax _ _ x rfl slx hlx fbx ?_;intro A7 c7 w7 ho7 f7)
    go_ret
    have e:r = o ++ [x]:=by rw [← HRR.out,HI.out,HD.out];simp [ptW4]
    rw [e]
    exact ⟨A7,c7,by first | rfl | simp,Sl.own ho7,f0.step0 f7⟩
end Go.Proofs.YtjpieiccpbcabaaGreat
