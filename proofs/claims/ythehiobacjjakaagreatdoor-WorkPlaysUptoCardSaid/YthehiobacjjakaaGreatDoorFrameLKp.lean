/- Contract of law 17's alive: the document's example answers true. (ex_ldS_at) The frame of work's laws: what the library's variables hold; arguments []Op; rows that list tables. -/
import Derived.Test.YthehiobacjjakaaGreatDoorClkPKp
import Derived.Test.YthehiobacjjakaaGreatDoorFrameRKp
import Derived.Test.YthehiobacjjakaaGreatDoorTie
import Derived.HandedShaped
import Derived.Shelf.Vars
import Derived.LaidMore
import Derived.Lay
import Derived.SevenTiedAt
import Derived.Stop.Joined
import Derived.Lib.LaidTab
set_option linter.unusedVariables false
set_option linter.unusedSimpArgs false
namespace Go.Proofs.YthehiobacjjakaaGreatDoor
open Go.RowKit Go.Maps Go.Sort
@[simp] theorem fldS_T (w:World) (s:St):(Instr.field 24 (.agg (codS.A s)) 0).run Tryz.prog w = .ok (.int .i64 s.T) w:=by
 rw [Cod.A_eq]
 kernel_rfl
set_option maxRecDepth 100000 in
set_option maxHeartbeats 4000000 in
theorem alive17_any (W0:World) (hT0:HasT W0) (hM0:HasMW W0):Calls Tryz.prog 8 #[] W0 (Gives W0 (.bool true)):=by
 have HT0:=Lib.hid hT0
 have HM0:=Lib.hid hM0
 clear hT0 hM0
 go_enter Tryz.func8,Tryz.ntmps8
 go_upto_region 2 with (first
  | (go_at_call 24;refine (start_any W0).mono ?_;rintro e W ⟨rfl,FW⟩)
  | (go_at_call 9;refine (new_nil W ⟨10,1⟩).mono ?_;rintro e w1 ⟨⟨P,d1,rs1,rfl,hd1⟩,F1⟩))
 have HT:=Lib.hid (HT0.out.fr FW)
 have HM:=Lib.hid (HM0.out.fr FW)
 have HFW:=Lib.hid FW
 have hd1:Dw W w1 P dA0 d1 rs1:=hd1
 have tok1:True:=trivial
 have tik1:True:=trivial
 have tak1:True:=trivial
 have D1:=Lib.hid hd1
 have F1:=Lib.hid F1
 clear FW hd1
 go_upto_region 4 with (first
  | (have _t:=tok1;go_at_call 25;refine (lit_of D1.out F1.out (wput_any D1.out tree_nil (by decide) F1.out HT.out HM.out [97,47,98] (by decide) id1) alv_1).mono ?_;rintro e w2 ⟨rfl,⟨d2,rs2,hd2⟩,f2⟩;have D2:=Lib.hid hd2;have F2:=Lib.hid f2;clear hd2 f2 _t tok1;have tok2:True:=trivial)
  | (have _t:=tak1;go_at_call 17;refine (rows_call D2.out alv_t1).mono ?_;rintro e w3 ⟨A3,c3,rs3,rfl,_,_,_,f3⟩;have D3:=Lib.hid (D2.out.fr0 f3);have F3:=Lib.hid (F2.out.step0 f3);clear f3 _t tak1;rw [show dA1.rows.length = 2 from rfl])
  | (have _t:=tik1;go_at_call 26;refine (lit_of D3.out F3.out (wmove_any D3.out alv_t1 (by decide) F3.out HT.out HM.out [97,47,98] [120,47,99] (by decide) (by decide)) alv_2).mono ?_;rintro e w4 ⟨rfl,⟨d4,rs4,hd4⟩,f4⟩;have D4:=Lib.hid hd4;have F4:=Lib.hid f4;clear hd4 f4 _t tik1;have tik2:True:=trivial)
  | (have _t:=tik2;go_at_call 26;refine (lit_of D4.out F4.out (wmove_any D4.out alv_t1 (by decide) F4.out HT.out HM.out [97,47,98] [99] (by decide) (by decide)) alv_3).mono ?_;rintro e w5 ⟨rfl,⟨d5,rs5,hd5⟩,f5⟩;have D5:=Lib.hid hd5;have F5:=Lib.hid f5;clear hd5 f5 _t tik2)
  | (have _t:=tok2;go_at_call 25;refine (lit_of D5.out F5.out (wput_any D5.out alv_t2 (by decide) F5.out HT.out HM.out [99,47,100] (by decide) id1) alv_4).mono ?_;rintro e w6 ⟨rfl,⟨d6,rs6,hd6⟩,f6⟩;have D6:=Lib.hid hd6;have F6:=Lib.hid f6;clear hd6 f6 _t tok2)
  | (go_at_call 15;refine (next_call D6.out).mono ?_;rintro e w7 ⟨rfl,f7⟩;have D7:=Lib.hid (D6.out.fr0 f7);have F7:=Lib.hid (F6.out.step0 f7);clear f7;rw [show dA2.next = ⟨14,1⟩ from rfl]))
 have FC:=Lib.hid (find_call D7.out (by decide) (HT.out.fr F7.out) (HM.out.fr F7.out) [99] (by decide))
 have FC:=Lib.hid (show Calls Tryz.prog 18 #[.pointer (some ⟨P,0,none⟩),.string ⟨#[99]⟩] w7 (FdTo w7 (⟨11,1⟩,true)) from by have:=FC.out;rw [alv_5] at this;exact this)
 go_upto_region 5 with (go_at_call 18;refine FC.out.mono ?_;rintro e w8 ⟨rfl,f8⟩)
 have D8:=Lib.hid (D7.out.fr0 f8)
 have F8:=Lib.hid (F7.out.step0 f8)
 have b8:=Cod.rd_new' (C:=codS) w8 ⟨11,1⟩
 have fa:Fr noB w8 (w8.alloc (codS.o ⟨11,1⟩)):=(Fr.refl noB w8).alloc _
 have D9:=Lib.hid (D8.out.fr0 fa)
 have F9:=Lib.hid (F8.out.step0 fa)
 clear fa f8 FC
 generalize w8.alloc (codS.o ⟨11,1⟩) = w9 at b8 D9 F9 ⊢
 generalize w8.heap.size = N at b8 ⊢
 go_upto_region 6 with (first
  | (go_at_call 17;refine (rows_call D9.out alv_t2).mono ?_;rintro e w10 ⟨A10,c10,rs10,rfl,l10,o10,a10,f10⟩)
  | (go_at_call 21;refine (list_call l10 o10 a10 alv_t2 (HT.out.fr (F9.out.step0 f10))).mono ?_;rintro e w11 ⟨A11,c11,os,ys,rfl,o11,a11,y11,f11⟩))
 have ey:=alv_y2 y11
 subst ey
 have hl:os.length = 2:=a11.1
 have D11:=Lib.hid (D9.out.fr0 (f10.step0 f11))
 have F11:=Lib.hid (F9.out.step0 (f10.step0 f11))
 have n11:w11.cell? ⟨N,0,none⟩ = some (.int .i64 11):=by
  have:=Cod.rd_cell (Cod.rd_fr0 b8 (f10.step0 f11)) 0 (v:=.int .i64 11) rfl
  simpa using this
 have hp1:(os[1]'(by omega)).Path = [99]:=((a11.2 1 (by omega) (by decide)).path).symm
 obtain ⟨g,off,eA,_⟩:=Sl.addr (Sl.own o11) (show 0 < os.length by omega)
 have r1:=(enAtO (by have:=Sl.own o11;rw [eA] at this;exact Sl.rd this 1 (by omega))).path
 rw [hp1] at r1
 have r1:w11.cell? ⟨g,off + 4,none⟩ = some (.string ⟨#[99]⟩):=r1
 rw [hl,eA]
 clear a11 y11 o11 hp1 eA hl l10 o10 a10 f10 f11 b8
 have RM:=Lib.hid (lit_of D11.out F11.out (remove_any D11.out alv_t2 (by decide) F11.out HT.out HM.out [97] (by decide)) alv_6)
 go_wp2_with (first
  | (go_at_call 27;refine RM.out.mono ?_;rintro e w12 ⟨rfl,⟨d12,rs12,hd12⟩,f12⟩)
  | (go_at_call 17;refine (rows_call hd12 alv_t3).mono ?_;rintro e w13 ⟨A13,c13,rs13,rfl,l13,o13,a13,f13⟩)
  | (go_at_call 21;refine (list_call l13 o13 a13 alv_t3 (HT.out.fr (f12.step0 f13))).mono ?_;rintro e w14 ⟨A14,c14,os14,ys14,rfl,o14,a14,y14,f14⟩;rw [show os14.length = 1 from a14.1.trans (alv_y3 y14)]))
 go_ret
 exact ⟨by first | rfl | simp,HFW.out.step0 (f12.step0 (f13.step0 f14))⟩
end Go.Proofs.YthehiobacjjakaaGreatDoor
namespace Go.Proofs.YthehiobacjjakaaGreatDoor
open Go.ChangeShapes Go.WideShapes Go.ChangeAt Go.RowKit Go.Deep
def laidW : List (String × DataW Unit) := [("math/bits.deBruijn32tab", Rows.laid_math_bits_deBruijn32tab), ("math/bits.deBruijn64tab", Rows.laid_math_bits_deBruijn64tab), ("internal/strconv.uint64pow10", Rows.laid_internal_strconv_uint64pow10), ("unicode/utf8.acceptRanges", Rows.laid_unicode_utf8_acceptRanges), ("unicode/utf8.first", Rows.laid_unicode_utf8_first)]
theorem hasMW {W:World} (h:W.ShapedOpen Tryz.prog):HasMW W:=by
 obtain ⟨m,hm⟩:=cell_of_shapedOpen_int (P:=Tryz.prog) (g:=0) (t:=3) (zero:=#[.int .i64 0]) (k:=.i64) h (of_decide_eq_true (by kernel_rfl)) (by kernel_rfl) rfl (by kernel_rfl) (by kernel_rfl) Tryz.underlying3
 exact ⟨⟨m,hm⟩,World.block_lt_of_cell? _ _ hm⟩
set_option maxRecDepth 100000 in
theorem hasTW {W:World} (h:laidMetH Tryz.prog laidW W):HasT W:=by
 rw [MakeChecks.laidMetH_plain _ _ _ (by kernel_rfl)] at h
 obtain ⟨ps,⟨_,_,_,_,_,_,_,_,_,_,⟨_,_,_,_,_,_,_,_,_,_,⟨g,t,cs,fuel,p,q,hg,ht,hv,hd,_,_⟩,_⟩,_⟩,_⟩:=h
 obtain rfl := Option.some.inj ((show Tryz.prog.globalNamed "internal/strconv.uint64pow10" = some 1 by kernel_rfl).symm.trans hg)
 obtain rfl:=Option.some.inj ((show (Tryz.prog.globals[1]?).map (·.type) = some 193 by kernel_rfl).symm.trans ht)
 have hd':DataW.trod _ Tryz.prog W 0 _ false fuel 193 cs.toList = some (Lib.tabData .u64 Lib.pow10Tab,p):=hd
 have:=Lib.cells_of_tab (k:=.u64) (zs:=Lib.pow10Tab) Tryz.underlying193 Tryz.underlying147 (by kernel_rfl) (by kernel_rfl) hd'
 unfold HasT Lib.TabIs
 rw [hv,← this]
section
variable {H:Type} {enc:TypeId × Value → H} {W:World}
theorem td_f4 {t:TypeId} {f0 f1 f2 f3:Field} {fuel:Nat} {cs:List Value} {x:DataW H × List MemPlace} (ht:Tryz.prog.underlying t = some (.struct #[f0,f1,f2,f3])) (h:Td enc W fuel t cs x) :
  ∃ n,cs.length = Tryz.prog.cellsOf t ∧ (∃ y,Td enc W n f0.type ((cs.drop f0.offset).take (Tryz.prog.cellsOf f0.type)) y) ∧ (∃ y,Td enc W n f1.type ((cs.drop f1.offset).take (Tryz.prog.cellsOf f1.type)) y) ∧ (∃ y,Td enc W n f2.type ((cs.drop f2.offset).take (Tryz.prog.cellsOf f2.type)) y) ∧ (∃ y,Td enc W n f3.type ((cs.drop f3.offset).take (Tryz.prog.cellsOf f3.type)) y):=by
 obtain ⟨n,hl,hf⟩:=td_fld ht h
 exact ⟨n,hl,hf 0 f0 rfl,hf 1 f1 rfl,hf 2 f2 rfl,hf 3 f3 rfl⟩
set_option maxRecDepth 100000 in
theorem td_lop {fuel:Nat} {cs:List Value} {x:DataW H × List MemPlace} (h:Td enc W fuel 35 cs x):∃ r:OpL,cs = codLp.cs r:=by
 obtain ⟨n,hl,⟨_,y0⟩,⟨_,y1⟩,⟨_,y2⟩,⟨_,y3⟩⟩:=td_f4 Tryz.underlying35 h
 have cl:Tryz.prog.cellsOf 35 = 35:=by kernel_rfl
 rw [cl] at hl
 have c0:Tryz.prog.cellsOf 3 = 1:=by kernel_rfl
 obtain ⟨a0,e0⟩:=td_int Tryz.underlying3 y0
 simp only [c0] at e0
 have c1:Tryz.prog.cellsOf 9 = 1:=by kernel_rfl
 obtain ⟨a1,e1,b1⟩:=td_str Tryz.underlying9 y1
 obtain ⟨a2,e2,b2⟩:=td_str Tryz.underlying9 y2
 simp only [c1] at e1 e2
 have c3:Tryz.prog.cellsOf 33 = 32:=by kernel_rfl
 obtain ⟨a3,e3⟩:=td_id y3
 simp only [c3] at e3
 have e:=cut_one e0 rfl
 rw [List.drop_zero] at e
 rw [cut_one e1 rfl,cut_one e2 rfl,cut_one e3 rfl,cut_end hl] at e
 exact ⟨⟨a0,a1,a2,a3⟩,by rw [e];rfl⟩
set_option maxRecDepth 100000 in
theorem open_lops {base:Nat} {v:Value} {d:DataW H} {p:List MemPlace}
  (hv:Value.okWide Tryz.prog W .any base 25 v) (h:DataW.Trod enc Tryz.prog W 0 (fun _=>true) true 25 v d p) (hw:∀ n ∈ d.weights Tryz.prog 25,n ≤ reachBytes) :
  ∃ (A:Option Addr) (rs:List OpL) (c:Nat),v = .slice A rs.length c ∧ Sl W A (codLp.row rs) ∧ rs.length ≤ 140737488355328 ∧ rs.length ≤ c:=by
 obtain ⟨a0,len,cap,rfl⟩:=okWide_slice Tryz.underlying25 hv
 obtain ⟨fuel,hf⟩:=h
 obtain ⟨A,rs,c,e,h1,h2,h3,_⟩:=td_sl codLp (R:=fun _=>True) Tryz.underlying25 (by kernel_rfl) (of_decide_eq_true (by kernel_rfl)) (fun n cs x h=>by obtain ⟨y,hy⟩:=td_lop h;exact ⟨y,hy,trivial⟩) (x:=(d,p)) ⟨hf,hw⟩
 refine ⟨A,rs,c,?_,h1,h2,h3⟩
 simpa [Value.cells] using e
end
end Go.Proofs.YthehiobacjjakaaGreatDoor
