/- Contracts: enc.Id, enc.Text. Contracts: the reader's take, Done, Text. -/
import Derived.Test.YthehiobacjjakaaGreatDoorPathPKp
import Derived.Test.YthehiobacjjakaaGreatDoorStWKp
import Derived.Test.YthehiobacjjakaaGreatDoorIdRowKp
import Derived.Test.YthehiobacjjakaaGreatDoorMapRKp
import Derived.Lib.AppendStr
set_option linter.unusedVariables false
set_option linter.unusedSimpArgs false
namespace Go.Proofs.YthehiobacjjakaaGreatDoor
open Go.RowKit
abbrev OwnB (w0 w:World) (A:Option Addr) (c:Nat) (l:List UInt8):Prop:=w.ownsRow w0.heap.size 5 1 (.slice A l.length c) l.length (bv l)
theorem ownBlock_slice (A:Option Addr) (n c:Nat):(Value.slice A n c).ownBlock = A.map (·.block):=by cases A <;> rfl
theorem step_appC (w0 w:World) {ops:Array Oper} {o:Oper} {a:Act} {K:Act → World → Prop} {Q:Exit → Act → World → Prop} {E:Prop} (hgd:o.guard = none) (s x:Operand)
  (ho:o.op = .call { callee:=.builtin .append,args:=#[s,x],argTypes:=#[129,129] })
  (As:Option Addr) (ns cs:Nat) (lo:List UInt8) (hs:a.eval s = .slice As ns cs) (hns:lo.length = ns) (hown:OwnB w0 w As cs lo)
  (A:Option Addr) (m c:Nat) (news:List UInt8) (hx:a.eval x = .slice A m c) (hr:Sl w A (bv news)) (hl:news.length = m)
  (hbytes:lo.length + news.length ≤ 140737488355328) (hbase:w0.heap.size ≤ w.heap.size)
  (h:∀ A' c' w',(lo ++ news).length ≤ c' → c' ≤ maxLen → OwnB w0 w' A' c' (lo ++ news) → w.grownBy w' (As.map (·.block)) →
   (A'.map (·.block) = As.map (·.block) ∨ A'.map (·.block) = some w.heap.size) → K (a.put o.dst (.slice A' (lo ++ news).length c')) w') :
  if Region.wanted o (yielded ops a.tmps) = true then Oper.wp Tryz.prog o a w K Q else E:=by
 have hw:Region.wanted o (yielded ops a.tmps) = true:=by simp [Region.wanted,hgd]
 rw [if_pos hw]
 subst hns
 refine wp_app w etBytes s x ho w0.heap.size _ lo.length (bv lo) hs hown A m c (bv news) hx hr (by simp [hl]) (bv_one _) (by rw [← hl];omega) hbase ?_
 intro v' w' h1 h2 h3
 rw [← bv_append] at h1
 have h1':=own_bv h1
 obtain ⟨A',c',rfl,hc1,hc2⟩:=own_form h1'
 rw [ownBlock_slice,ownBlock_slice] at h3
 rw [ownBlock_slice] at h2
 have e:lo.length + m = (lo ++ news).length:=by simp [hl]
 exact h A' c' w' hc1 hc2 h1' h2 h3
theorem sl_arr (w:World) (x:ID):Sl (w.alloc (ido x)) (some ⟨w.heap.size,0,none⟩) (bv x.1):=by
 have:=Sl.new w 33 (bv x.1)
 rw [← idA_eq] at this
 exact this
set_option maxRecDepth 100000 in
theorem eid_any (w:World) (A:Option Addr) (c n:Nat) (l:List UInt8) (hn:l.length = n) (hs:Sl w A (bv l)) (hb:l.length ≤ 140737488355000) (x:ID):Calls Tryz.prog 116 #[.slice A n c,encI x] w (NewBytes w (l ++ x.1)):=by
 subst hn
 have f0:Fr noB w (w.alloc (ido x)):=(Fr.refl noB w).alloc _
 have sx:=sl_arr w x
 have hs1:=hs.fr0 f0
 go_enter Tryz.func116,Tryz.ntmps116
 go_upto_region 1 with fail
 generalize w.alloc (ido x) = w1 at f0 sx hs1 ⊢
 generalize hP:w.heap.size = P at sx ⊢
 have fd:=(Fr.refl noB w1).drew
 go_wp2_with fail
 refine wp_region_M 4 5 [⟨32,1,0⟩,⟨64,32,1⟩,⟨128,8,0⟩,⟨256,192,6⟩,⟨16,256,15⟩] [(true,0),(true,2),(false,1),(false,3)] (fun w'=>True) (by kernel_rfl) rfl (by kernel_rfl) (by kernel_rfl) (by kernel_rfl) trivial (fun hA hF=>?_)
 iterate 2
  refine wpAnyS_take (v:=?_) hA rfl (fun _ _ _ h=>h) (Or.inl ⟨by rfl,?_⟩) hF (fun hA=>?_)
  rotate_left
  ·intro wS hSw;(try dsimp only at hSw);obtain s1:=hSw;(go_simp;try with_reducible rfl)
  try simp only [sA1,sA2,sA3,Act.put,sA4,sA5,sA6]
 refine wpAnyS_one hA rfl (fun K' hK=>?_)
 go_simp
 go_at_call 139
 refine (clone_n _ A c l _ rfl (hs1.fr0 fd) (by omega)).mono ?_
 rintro e w2 ⟨A2,c2,rfl,ho2,f2⟩
 refine hK.out _ _ trivial (fun hA=>?_)
 clear hK K'
 refine wpAnyS_one hA rfl (fun K' hK=>?_)
 have ho3:OwnB w w2 A2 c2 l:=own_base ho2 (Nat.le_trans f0.size fd.size)
 refine step_appC w _ rfl _ _ rfl A2 _ c2 l rfl rfl ho3 (some ⟨P,0,none⟩) 32 _ x.1 rfl ((sx.fr0 fd).fr0 f2) x.2 (by rw [x.2];omega) ((f0.step0 fd).step0 f2).size ?_
 intro A6 c6 w6 hc6 hm6 ho6 hg6 hA6
 have f6:=Fr.ofGrown (M:=fun b=>A2.map (·.block) = some b) hg6 (fun g hg=>hg)
 refine hK.out _ _ trivial (fun hA=>?_)
 clear hK K'
 refine wpAnyS_end hA rfl ?_
 simp only [List.drop_succ_cons,List.drop_zero]
 go_wp2_with fail
 go_ret
 refine ⟨A6,c6,by first | rfl | simp,ho6,((f0.step0 fd).step0 f2).step f6 (fun b hb=>.inl ?_)⟩
 cases A2 with
 | none=>cases hb
 | some a=>simp only [Option.map_some,Option.some.injEq] at hb;rw [← hb];exact (ho3.lt _ (by simp [Value.ownBlock])).1
theorem str_cells (t:List UInt8):Lib.strCells (str t) = bv t:=by simp [Lib.strCells,str,bv,u8v]
theorem str_size (t:List UInt8):(str t).size = t.length:=rfl
set_option maxRecDepth 100000 in
theorem etext_any (w:World) (A:Option Addr) (c n:Nat) (l:List UInt8) (hn:l.length = n) (hs:Sl w A (bv l)) (hb:l.length ≤ 100000000000) (t:List UInt8) (ht:t.length ≤ 100000000000) :
  Calls Tryz.prog 117 #[.slice A n c,.string (str t)] w (NewBytes w (l ++ txB t)):=by
 subst hn
 obtain ⟨i,hi,hi2⟩:=Option.map_eq_some_iff.1 (show (Tryz.prog.info? 5).map (fun i=>(i.zero,i.size,i.bytes)) = some (some (.int .u8 0),1,1) by kernel_rfl)
 simp only [Prod.mk.injEq] at hi2
 have hz:=str_size t
 have HZ:=Lib.hid hz
 go_enter Tryz.func117,Tryz.ntmps117
 go_wp2_with fail
 go_at_call 115
 refine (enum_n w A c l _ rfl hs (by omega) t.length (by omega)).mono ?_
 rintro e w2 ⟨A2,c2,rfl,ho2,f2⟩
 have hnl:=numB_length t.length (by omega)
 have h1:(l ++ numB t.length).length + (str t).size ≤ 140737488355328:=by rw [HZ.out,List.length_append];omega
 have h2:(l ++ numB t.length).length + (str t).size ≤ maxLen:=by unfold maxLen;omega
 have hsz:=f2.size
 clear hz hnl
 generalize hL:l ++ numB t.length = L at ho2 h1 h2 ⊢
 have HL:=Lib.hid hL
 clear hL
 go_wp2_with (at_builtin;refine Lib.wpList_append_own_string _ rfl _ _ 129 9 rfl w.heap.size 5 i Tryz.underlying129 Tryz.underlying9 hi hi2.1 hi2.2.1 hi2.2.2 _ L.length (bv L) rfl ho2 (str t) rfl h2 h1 hsz ?_;intro v6 w6 ho6 hg6 hv6)
 go_ret
 rw [str_cells,← bv_append,← HL.out,List.append_assoc] at ho6
 have f6:Fr (fun b=>A2.map (·.block) = some b) w2 w6:=Fr.ofGrown (M:=fun b=>A2.map (·.block) = some b) hg6 (fun g hg=>by have hg':(Value.slice A2 L.length c2).ownBlock = some g:=hg;rw [ownBlock_slice] at hg';exact hg')
 have:=NewBytes.mk ho6 (f2.step f6 (fun b hb=>.inl (by
  cases A2 with
  | none=>cases hb
  | some a=>simp only [Option.map_some,Option.some.injEq] at hb;rw [← hb];exact (ho2.lt _ (by simp [Value.ownBlock])).1)))
 exact this
end Go.Proofs.YthehiobacjjakaaGreatDoor
namespace Go.Proofs.YthehiobacjjakaaGreatDoor
open Go.RowKit
end Go.Proofs.YthehiobacjjakaaGreatDoor
