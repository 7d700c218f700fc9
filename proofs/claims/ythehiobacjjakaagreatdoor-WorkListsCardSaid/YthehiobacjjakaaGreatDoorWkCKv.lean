/- Contract of work: shown. -/
import Derived.Test.YthehiobacjjakaaGreatDoorWkBKv
import Derived.Test.YthehiobacjjakaaGreatDoorStabCKv
import Derived.Test.YthehiobacjjakaaGreatDoorRegMKv
import Derived.Lib.ItoaLen
set_option linter.unusedVariables false
set_option linter.unusedSimpArgs false
namespace Go.Proofs.YthehiobacjjakaaGreatDoor
open Go.RowKit Go.Maps Go.Sort
def shownM (us:List RwW) (i:Nat) (r:RwW):List UInt8:=if ((us.take i).any fun x=>decide (x.Name = r.Name)) || r.Name.contains 126 then r.Name ++ sfxD r.Node else r.Name
theorem range_take (us:List RwW) (nm:List UInt8) (i:Nat) (hi:i ≤ us.length):((List.range (us.take i).length).any fun k=>if h:k < (us.take i).length then decide (((us.take i)[k]).Name = nm) else false) = (us.take i).any fun x=>decide (x.Name = nm):=by
 generalize us.take i = l
 rw [Bool.eq_iff_iff,List.any_eq_true,List.any_eq_true]
 constructor
 ·rintro ⟨k,hk,h⟩
  rw [List.mem_range] at hk
  rw [dif_pos hk] at h
  exact ⟨_,List.getElem_mem hk,h⟩
 ·rintro ⟨x,hx,h⟩
  obtain ⟨k,hk,rfl⟩:=List.getElem_of_mem hx
  exact ⟨k,List.mem_range.2 hk,by rw [dif_pos hk];exact h⟩
theorem ex_sadd_at {ρ:Operand → Value} {o:Oper} {a b:Operand} {w:World} {A B:ByteArray} (ho:o.op = .binOp .add 9 a b 9) (ha:ρ a = .string A) (hb:ρ b = .string B) (hl:A.size + B.size ≤ 9223372036854775807):(execOp ρ o).run Tryz.prog w = .ok (.value (.string (A ++ B))) w:=by
 obtain ⟨d,op,t,p,f,g⟩:=o
 simp only at ho
 subst ho
 have hl':¬ 9223372036854775807 < A.size + B.size:=by omega
 unfold execOp
 simp only [ha,hb]
 go_simp
theorem sz_str (l:List UInt8):(str l).size = l.length:=rfl
set_option maxRecDepth 100000 in
set_option maxHeartbeats 2000000 in
theorem shown_any (w:World) (A:Option Addr) (c n:Nat) (us:List RwW) (hn:us.length = n) (hs:Sl w A (codR.row us)) (hc:n ≤ c) (hb:us.length ≤ 1000000) (i:Nat) (hi:i < us.length) (hT:HasT w) (hw:wfS us[i].Node = true) (hnm:us[i].Name.length ≤ 140737488355328) :
  Calls Tryz.prog 72 #[.slice A n c,.int .i64 (i:Int)] w (Gives w (.string (str (shownM us i us[i])))):=by
 subst hn
 have i1:(i:Int) < (us.length:Int):=by omega
 have i0:(0:Int) ≤ (i:Int):=by omega
 obtain ⟨g,off,rfl,hg⟩:=Sl.addr hs (by omega)
 have ro:codR.rd w g (off + i * 8) = some us[i]:=Sl.rd hs i hi
 have htk:Sl w (some ⟨g,off,none⟩) (codR.row (us.take i)):=by
  rw [← Cod.row_take us i (by omega)]
  exact Sl.take hs
 have HTK:=Lib.hid htk
 have HSH:=Lib.hid (show shownM us i us[i] = if ((us.take i).any fun x=>decide (x.Name = us[i].Name)) || us[i].Name.contains 126 then us[i].Name ++ sfxD us[i].Node else us[i].Name from rfl)
 have HRT:=Lib.hid (fun nm=>range_take us nm i (by omega))
 have hlt:(us.take i).length = i:=by rw [List.length_take];omega
 generalize us.take i = l at HTK HSH HRT hlt
 generalize shownM us i us[i] = res at HSH ⊢
 generalize us[i] = r at ro HSH hw hnm
 have HNM:=Lib.hid hnm
 have HTB:=Lib.hid hT
 have HLB:=Lib.hid hb
 have HLT:=Lib.hid hlt
 have hic:i ≤ c:=by omega
 have HI:=Lib.hid hi
 clear hs hg hT htk hb hlt hnm
 go_enter Tryz.func72,Tryz.ntmps72
 go_upto_region 2 with fail
 have f1:Fr noB w (w.alloc (codR.o r)):=(Fr.refl noB w).alloc _
 have q1:=rwAt (Cod.rd_new' (C:=codR) w r)
 have F1:=Lib.hid f1
 clear ro f1
 generalize w.alloc (codR.o r) = w1 at q1 F1 ⊢
 generalize w.heap.size = P at q1 ⊢
 have CS:=Lib.hid (contSh_any w1 (some ⟨g,off,none⟩) c i l HLT.out (HTK.out.fr0 F1.out) (by have:=HLT.out;have:=HI.out;have:=HLB.out;omega) (.pointer (some ⟨P,0,none⟩)) (fun k=>if h:k < l.length then decide ((l[k]).Name = r.Name) else false) (fun w' f k hk=>by
  have:=shown1_any w' l[k] r P (Cod.rd_fr0 q1.self f)
  simpa [hk] using this))
 have Q1:=Lib.hid q1
 clear q1
 go_upto_region 3 with (go_at_call 81;refine CS.out.mono ?_;rintro e w2 ⟨rfl,f2⟩;rw [HRT.out])
 have q2:=rwAt (Cod.rd_fr0 Q1.out.self f2)
 have qn:=q2.name
 have c0:w2.cell? ⟨P,0,none⟩ = some (.int .i64 r.Node.T):=by simpa using Cod.rd_cell q2.node 0 (v:=.int .i64 r.Node.T) rfl
 have c1:w2.cell? ⟨P,1,none⟩ = some (.int .i64 r.Node.R):=by simpa using Cod.rd_cell q2.node 1 (v:=.int .i64 r.Node.R) rfl
 have F2:=Lib.hid (F1.out.step0 f2)
 have hb1:(-9223372036854775808 ≤ r.Node.T ∧ r.Node.T ≤ 9223372036854775807) ∧ (-9223372036854775808 ≤ r.Node.R ∧ r.Node.R ≤ 9223372036854775807):=by
  unfold wfS at hw
  simp only [Bool.and_eq_true,decide_eq_true_eq] at hw
  exact ⟨⟨hw.1.1.1,hw.1.1.2⟩,hw.1.2,hw.2⟩
 have HW:=Lib.hid hb1
 clear q2 f2 hw hb1
 generalize (l.any fun x=>decide (x.Name = r.Name)) = tw at HSH ⊢
 have HNS:r.Name ++ sfxD r.Node = ((((r.Name ++ [126]) ++ Lib.itoa r.Node.T) ++ [46]) ++ Lib.itoa r.Node.R):=by unfold sfxD;simp
 have HN:=Lib.hid HNS
 clear HNS
 cases tw with
 | true =>
  have HCT:=Lib.hid (rfl:r.Name.contains 126 = r.Name.contains 126)
  have HRES:=Lib.hid (show res = r.Name ++ sfxD r.Node by rw [HSH.out];simp)
  go_upto_region 5 with (go_at_call 53;refine (tilde_any _ _).mono ?_;rintro e w3 ⟨rfl,f3⟩;rw [HCT.out])
  have fd:Fr noB w2 (w2).drew:=(Fr.refl noB _).drew
  have keep:∀ w' w'':World,Fr noB w' w'' → (w'.cell? ⟨P,6,none⟩ = some (.string (str r.Name)) ∧ w'.cell? ⟨P,0,none⟩ = some (.int .i64 r.Node.T) ∧ w'.cell? ⟨P,1,none⟩ = some (.int .i64 r.Node.R)) → (w''.cell? ⟨P,6,none⟩ = some (.string (str r.Name)) ∧ w''.cell? ⟨P,0,none⟩ = some (.int .i64 r.Node.T) ∧ w''.cell? ⟨P,1,none⟩ = some (.int .i64 r.Node.R)):=fun w' w'' f h=>⟨cell_fr0 h.1 f,cell_fr0 h.2.1 f,cell_fr0 h.2.2 f⟩
  have hF0:=keep w2 (w2).drew (fd) ⟨qn,c0,c1⟩
  have FD:=Lib.hid (F2.out.step0 (fd))
  clear qn c0 c1 fd
  refine wp_region_M 14 15 [⟨67108864,32,0⟩,⟨134217728,67108864,1⟩,⟨268435456,134217728,2⟩,⟨536870912,32,0⟩,⟨1073741824,536870912,8⟩,⟨2147483648,1073741824,16⟩,⟨4294967296,2147483648,32⟩,⟨8589934592,4563402752,68⟩,⟨17179869184,8589934592,128⟩,⟨34359738368,32,0⟩,⟨68719476736,34359738368,512⟩,⟨137438953472,68719476736,1024⟩,⟨274877906944,137438953472,2112⟩,⟨549755813888,292057776128,4352⟩,⟨16,549755813888,16383⟩] [(true,0),(true,1),(true,2),(true,3),(true,4),(true,5),(true,9),(true,10),(true,11),(false,6),(true,7),(true,8),(false,12),(true,13)] (fun w'=>w'.cell? ⟨P,6,none⟩ = some (.string (str r.Name)) ∧ w'.cell? ⟨P,0,none⟩ = some (.int .i64 r.Node.T) ∧ w'.cell? ⟨P,1,none⟩ = some (.int .i64 r.Node.R)) (by kernel_rfl) rfl (by kernel_rfl) (by kernel_rfl) (by kernel_rfl) hF0 (fun hA hF=>?_)
  clear hF0
  generalize (w2).drew = V at hF FD ⊢
  have L1:=Lib.itoa_length_le r.Node.T HW.out.1.1 HW.out.1.2
  have L2:=Lib.itoa_length_le r.Node.R HW.out.2.1 HW.out.2.2
  have z1:(str r.Name).size + (⟨#[126]⟩:ByteArray).size ≤ 9223372036854775807:=by rw [sz_str];have:=HNM.out;show _ + 1 ≤ _;omega
  have z2:(str r.Name ++ ⟨#[126]⟩:ByteArray).size + (str (Lib.itoa r.Node.T)).size ≤ 9223372036854775807:=by rw [ByteArray.size_append,sz_str,sz_str];have:=HNM.out;show _ + 1 + _ ≤ _;omega
  have z3:(str r.Name ++ ⟨#[126]⟩ ++ str (Lib.itoa r.Node.T):ByteArray).size + (⟨#[46]⟩:ByteArray).size ≤ 9223372036854775807:=by rw [ByteArray.size_append,ByteArray.size_append,sz_str,sz_str];have:=HNM.out;show _ + 1 + _ + 1 ≤ _;omega
  have z4:(str r.Name ++ ⟨#[126]⟩ ++ str (Lib.itoa r.Node.T) ++ ⟨#[46]⟩:ByteArray).size + (str (Lib.itoa r.Node.R)).size ≤ 9223372036854775807:=by rw [ByteArray.size_append,ByteArray.size_append,ByteArray.size_append,sz_str,sz_str,sz_str];have:=HNM.out;show _ + 1 + _ + 1 + _ ≤ _;omega
  have ZZ:=Lib.hid (And.intro z1 (And.intro z2 (And.intro z3 z4)))
  clear z1 z2 z3 z4 L1 L2
  iterate 2
   refine wpAnyS_take (v:=?_) hA rfl (fun _ _ _ h=>h) (Or.inl ⟨by rfl,?_⟩) hF (fun hA=>?_)
   rotate_left
   ·intro wS hSw;(try dsimp only at hSw);obtain ⟨s1,s2,s3⟩:=hSw;(go_simp;try with_reducible rfl)
   try simp only [sA1,sA2,sA3,Act.put,sA4,sA5,sA6]
  refine wpAnyS_take (v:=.string (str r.Name ++ ⟨#[126]⟩)) hA rfl (fun _ _ _ h=>h) (Or.inl ⟨by rfl,fun wS hSw=>ex_sadd_at rfl rfl rfl ZZ.out.1⟩) hF (fun hA=>?_)
  try simp only [sA1,sA2,sA3,Act.put,sA4,sA5,sA6]
  iterate 6
   refine wpAnyS_take (v:=?_) hA rfl (fun _ _ _ h=>h) (Or.inl ⟨by rfl,?_⟩) hF (fun hA=>?_)
   rotate_left
   ·intro wS hSw;(try dsimp only at hSw);obtain ⟨s1,s2,s3⟩:=hSw;(go_simp;try with_reducible rfl)
   try simp only [sA1,sA2,sA3,Act.put,sA4,sA5,sA6]
  refine wpAnyS_one hA rfl (fun K' hK=>?_)
  go_simp
  go_at_call 96
  refine (fmt_any V (HTB.out.fr FD.out) r.Node.T HW.out.1.1 HW.out.1.2).mono ?_
  rintro e w5 ⟨rfl,f5⟩
  replace hF:=keep _ _ f5 hF
  refine hK.out _ _ hF (fun hA=>?_)
  clear hK K'
  try simp only [sA1,sA2,sA3,Act.put,sA4,sA5,sA6]
  refine wpAnyS_take (v:=.string ((str r.Name ++ ⟨#[126]⟩) ++ str (Lib.itoa r.Node.T))) hA rfl (fun _ _ _ h=>h) (Or.inl ⟨by rfl,fun wS hSw=>ex_sadd_at rfl rfl rfl ZZ.out.2.1⟩) hF (fun hA=>?_)
  try simp only [sA1,sA2,sA3,Act.put,sA4,sA5,sA6]
  refine wpAnyS_take (v:=.string ((str r.Name ++ ⟨#[126]⟩ ++ str (Lib.itoa r.Node.T)) ++ ⟨#[46]⟩)) hA rfl (fun _ _ _ h=>h) (Or.inl ⟨by rfl,fun wS hSw=>ex_sadd_at rfl rfl rfl ZZ.out.2.2.1⟩) hF (fun hA=>?_)
  try simp only [sA1,sA2,sA3,Act.put,sA4,sA5,sA6]
  refine wpAnyS_one hA rfl (fun K' hK=>?_)
  go_simp
  go_at_call 97
  refine (itoa_any w5 (HTB.out.fr (FD.out.step0 f5)) r.Node.R HW.out.2.1 HW.out.2.2).mono ?_
  rintro e w6 ⟨rfl,f6⟩
  replace hF:=keep _ _ f6 hF
  refine hK.out _ _ hF (fun hA=>?_)
  clear hK K'
  try simp only [sA1,sA2,sA3,Act.put,sA4,sA5,sA6]
  refine wpAnyS_take (v:=.string ((str r.Name ++ ⟨#[126]⟩ ++ str (Lib.itoa r.Node.T) ++ ⟨#[46]⟩) ++ str (Lib.itoa r.Node.R))) hA rfl (fun _ _ _ h=>h) (Or.inl ⟨by rfl,fun wS hSw=>ex_sadd_at rfl rfl rfl ZZ.out.2.2.2⟩) hF (fun hA=>?_)
  try simp only [sA1,sA2,sA3,Act.put,sA4,sA5,sA6]
  refine wpAnyS_end hA rfl ?_
  simp only [List.drop_succ_cons,List.drop_zero]
  go_wp2_with fail
  go_ret
  refine ⟨?_,FD.out.step0 (f5.step0 f6)⟩
  rw [HRES.out,HN.out,← str_appW,← str_appW,← str_appW,← str_appW]
  rfl
 | false =>
  cases hct:r.Name.contains 126 with
  | true =>
   have HCT:=Lib.hid hct
   rw [hct] at HSH
   clear hct
   have HRES:=Lib.hid (show res = r.Name ++ sfxD r.Node by rw [HSH.out];simp)
   go_upto_region 5 with (go_at_call 53;refine (tilde_any _ _).mono ?_;rintro e w3 ⟨rfl,f3⟩;rw [HCT.out])
   have fd:Fr noB w3 (w3).drew:=(Fr.refl noB _).drew
   have keep:∀ w' w'':World,Fr noB w' w'' → (w'.cell? ⟨P,6,none⟩ = some (.string (str r.Name)) ∧ w'.cell? ⟨P,0,none⟩ = some (.int .i64 r.Node.T) ∧ w'.cell? ⟨P,1,none⟩ = some (.int .i64 r.Node.R)) → (w''.cell? ⟨P,6,none⟩ = some (.string (str r.Name)) ∧ w''.cell? ⟨P,0,none⟩ = some (.int .i64 r.Node.T) ∧ w''.cell? ⟨P,1,none⟩ = some (.int .i64 r.Node.R)):=fun w' w'' f h=>⟨cell_fr0 h.1 f,cell_fr0 h.2.1 f,cell_fr0 h.2.2 f⟩
   have hF0:=keep w2 (w3).drew (f3.step0 fd) ⟨qn,c0,c1⟩
   have FD:=Lib.hid (F2.out.step0 (f3.step0 fd))
   clear qn c0 c1 fd
   refine wp_region_M 14 15 [⟨67108864,32,0⟩,⟨134217728,67108864,1⟩,⟨268435456,134217728,2⟩,⟨536870912,32,0⟩,⟨1073741824,536870912,8⟩,⟨2147483648,1073741824,16⟩,⟨4294967296,2147483648,32⟩,⟨8589934592,4563402752,68⟩,⟨17179869184,8589934592,128⟩,⟨34359738368,32,0⟩,⟨68719476736,34359738368,512⟩,⟨137438953472,68719476736,1024⟩,⟨274877906944,137438953472,2112⟩,⟨549755813888,292057776128,4352⟩,⟨16,549755813888,16383⟩] [(true,0),(true,1),(true,2),(true,3),(true,4),(true,5),(true,9),(true,10),(true,11),(false,6),(true,7),(true,8),(false,12),(true,13)] (fun w'=>w'.cell? ⟨P,6,none⟩ = some (.string (str r.Name)) ∧ w'.cell? ⟨P,0,none⟩ = some (.int .i64 r.Node.T) ∧ w'.cell? ⟨P,1,none⟩ = some (.int .i64 r.Node.R)) (by kernel_rfl) rfl (by kernel_rfl) (by kernel_rfl) (by kernel_rfl) hF0 (fun hA hF=>?_)
   clear hF0
   generalize (w3).drew = V at hF FD ⊢
   have L1:=Lib.itoa_length_le r.Node.T HW.out.1.1 HW.out.1.2
   have L2:=Lib.itoa_length_le r.Node.R HW.out.2.1 HW.out.2.2
   have z1:(str r.Name).size + (⟨#[126]⟩:ByteArray).size ≤ 9223372036854775807:=by rw [sz_str];have:=HNM.out;show _ + 1 ≤ _;omega
   have z2:(str r.Name ++ ⟨#[126]⟩:ByteArray).size + (str (Lib.itoa r.Node.T)).size ≤ 9223372036854775807:=by rw [ByteArray.size_append,sz_str,sz_str];have:=HNM.out;show _ + 1 + _ ≤ _;omega
   have z3:(str r.Name ++ ⟨#[126]⟩ ++ str (Lib.itoa r.Node.T):ByteArray).size + (⟨#[46]⟩:ByteArray).size ≤ 9223372036854775807:=by rw [ByteArray.size_append,ByteArray.size_append,sz_str,sz_str];have:=HNM.out;show _ + 1 + _ + 1 ≤ _;omega
   have z4:(str r.Name ++ ⟨#[126]⟩ ++ str (Lib.itoa r.Node.T) ++ ⟨#[46]⟩:ByteArray).size + (str (Lib.itoa r.Node.R)).size ≤ 9223372036854775807:=by rw [ByteArray.size_append,ByteArray.size_append,ByteArray.size_append,sz_str,sz_str,sz_str];have:=HNM.out;show _ + 1 + _ + 1 + _ ≤ _;omega
   have ZZ:=Lib.hid (And.intro z1 (And.intro z2 (And.intro z3 z4)))
   clear z1 z2 z3 z4 L1 L2
   iterate 2
    refine wpAnyS_take (v:=?_) hA rfl (fun _ _ _ h=>h) (Or.inl ⟨by rfl,?_⟩) hF (fun hA=>?_)
    rotate_left
    ·intro wS hSw;(try dsimp only at hSw);obtain ⟨s1,s2,s3⟩:=hSw;(go_simp;try with_reducible rfl)
    try simp only [sA1,sA2,sA3,Act.put,sA4,sA5,sA6]
   refine wpAnyS_take (v:=.string (str r.Name ++ ⟨#[126]⟩)) hA rfl (fun _ _ _ h=>h) (Or.inl ⟨by rfl,fun wS hSw=>ex_sadd_at rfl rfl rfl ZZ.out.1⟩) hF (fun hA=>?_)
   try simp only [sA1,sA2,sA3,Act.put,sA4,sA5,sA6]
   iterate 6
    refine wpAnyS_take (v:=?_) hA rfl (fun _ _ _ h=>h) (Or.inl ⟨by rfl,?_⟩) hF (fun hA=>?_)
    rotate_left
    ·intro wS hSw;(try dsimp only at hSw);obtain ⟨s1,s2,s3⟩:=hSw;(go_simp;try with_reducible rfl)
    try simp only [sA1,sA2,sA3,Act.put,sA4,sA5,sA6]
   refine wpAnyS_one hA rfl (fun K' hK=>?_)
   go_simp
   go_at_call 96
   refine (fmt_any V (HTB.out.fr FD.out) r.Node.T HW.out.1.1 HW.out.1.2).mono ?_
   rintro e w5 ⟨rfl,f5⟩
   replace hF:=keep _ _ f5 hF
   refine hK.out _ _ hF (fun hA=>?_)
   clear hK K'
   try simp only [sA1,sA2,sA3,Act.put,sA4,sA5,sA6]
   refine wpAnyS_take (v:=.string ((str r.Name ++ ⟨#[126]⟩) ++ str (Lib.itoa r.Node.T))) hA rfl (fun _ _ _ h=>h) (Or.inl ⟨by rfl,fun wS hSw=>ex_sadd_at rfl rfl rfl ZZ.out.2.1⟩) hF (fun hA=>?_)
   try simp only [sA1,sA2,sA3,Act.put,sA4,sA5,sA6]
   refine wpAnyS_take (v:=.string ((str r.Name ++ ⟨#[126]⟩ ++ str (Lib.itoa r.Node.T)) ++ ⟨#[46]⟩)) hA rfl (fun _ _ _ h=>h) (Or.inl ⟨by rfl,fun wS hSw=>ex_sadd_at rfl rfl rfl ZZ.out.2.2.1⟩) hF (fun hA=>?_)
   try simp only [sA1,sA2,sA3,Act.put,sA4,sA5,sA6]
   refine wpAnyS_one hA rfl (fun K' hK=>?_)
   go_simp
   go_at_call 97
   refine (itoa_any w5 (HTB.out.fr (FD.out.step0 f5)) r.Node.R HW.out.2.1 HW.out.2.2).mono ?_
   rintro e w6 ⟨rfl,f6⟩
   replace hF:=keep _ _ f6 hF
   refine hK.out _ _ hF (fun hA=>?_)
   clear hK K'
   try simp only [sA1,sA2,sA3,Act.put,sA4,sA5,sA6]
   refine wpAnyS_take (v:=.string ((str r.Name ++ ⟨#[126]⟩ ++ str (Lib.itoa r.Node.T) ++ ⟨#[46]⟩) ++ str (Lib.itoa r.Node.R))) hA rfl (fun _ _ _ h=>h) (Or.inl ⟨by rfl,fun wS hSw=>ex_sadd_at rfl rfl rfl ZZ.out.2.2.2⟩) hF (fun hA=>?_)
   try simp only [sA1,sA2,sA3,Act.put,sA4,sA5,sA6]
   refine wpAnyS_end hA rfl ?_
   simp only [List.drop_succ_cons,List.drop_zero]
   go_wp2_with fail
   go_ret
   refine ⟨?_,FD.out.step0 (f5.step0 f6)⟩
   rw [HRES.out,HN.out,← str_appW,← str_appW,← str_appW,← str_appW]
   rfl
  | false =>
   have HCT:=Lib.hid hct
   rw [hct] at HSH
   clear hct
   have HRES:=Lib.hid (show res = r.Name by rw [HSH.out];simp)
   go_upto_region 4 with (go_at_call 53;refine (tilde_any _ _).mono ?_;rintro e w3 ⟨rfl,f3⟩;rw [HCT.out])
   have qn3:=cell_fr0 qn f3
   go_wp2_with fail
   go_ret
   exact ⟨by rw [HRES.out];rfl,F2.out.step0 f3⟩
end Go.Proofs.YthehiobacjjakaaGreatDoor
