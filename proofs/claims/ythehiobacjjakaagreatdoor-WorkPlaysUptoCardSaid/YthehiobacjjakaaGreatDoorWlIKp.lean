/- Entries of a list as they lie in memory; rules for the walk. Contract of work: list. (ex_ldS_at ex_bldEn_at) Contract of work: List. (ex_ldS_at) -/
import Derived.Test.YthehiobacjjakaaGreatDoorSrtEKp
import Derived.Test.YthehiobacjjakaaGreatDoorLsPKp
set_option linter.unusedVariables false
set_option linter.unusedSimpArgs false
namespace Go.Proofs.YthehiobacjjakaaGreatDoor
open Go.RowKit Go.Maps Go.Sort
structure EnW where
 Path:List UInt8
 Node:St
 A:Option Addr
 n:Nat
 c:Nat
def csEn (r:EnW):List Value:=[.string (str r.Path),.int .i64 r.Node.T,.int .i64 r.Node.R,.slice r.A r.n r.c]
def zEnW:EnW:=⟨[],zSt,none,0,0⟩
instance:Inhabited EnW:=⟨zEnW⟩
def codEn:Cod EnW:=⟨57,4,csEn,zEnW,fun x=>by simp [csEn],by decide,fun x u hu=>by
  simp only [csEn,List.mem_cons,List.not_mem_nil,or_false] at hu
  rcases hu with rfl | rfl | rfl | rfl <;> rfl,fun x y h=>by
 obtain ⟨nm,⟨a,b⟩,A,n,c⟩:=x;obtain ⟨nm',⟨a',b'⟩,A',n',c'⟩:=y
 simp only [csEn] at h;simp only [List.cons.injEq,Value.int.injEq,Value.string.injEq,Value.slice.injEq,true_and,and_true] at h
 obtain ⟨hn,rfl,rfl,h1,h2,h3⟩:=h
 have hn:=str_inj hn
 subst hn h1 h2 h3
 rfl⟩
theorem okEn:CodOk Tryz.prog codEn:=⟨⟨_,Tryz.underlying57,rfl⟩,by kernel_rfl,fun w=>(zero_of_info (P:=Tryz.prog) (t:=57) (v:=.agg (codEn.cs codEn.z).toArray) (n:=4) (by kernel_rfl)).1 w⟩
theorem etEn:ET Tryz.prog 49 codEn.t codEn.n 56:=ET.mk' (z:=.agg (codEn.cs codEn.z).toArray) Tryz.underlying49 (by kernel_rfl) (by simp only [Value.cells];kernel_rfl) (by decide) (by decide)
theorem bs_En (w:World) (x:EnW):(Instr.buildSlice 49 1 #[(0,.agg (codEn.A x))]).run Tryz.prog w = .ok (.slice (some ⟨w.heap.size,0,none⟩) 1 1) (w.alloc (codEn.ro [x])):=okEn.bs1 49 Tryz.underlying49 Tryz.sizeOf57 (by decide) w x
@[simp] theorem bsR_En (w:World) (x:EnW):bsR 49 w (.agg (codEn.A x)) = .ok (.value (.slice (some ⟨w.heap.size,0,none⟩) 1 1)) (w.alloc (codEn.ro [x])):=by
 unfold bsR;rw [bs_En];rfl
theorem ex_bsEn_at {ρ:Operand → Value} {o:Oper} {a:Operand} {w:World} {x:EnW} (ho:o.op = .buildSlice 49 1 #[(0,a)]) (ha:ρ a = .agg (codEn.A x)) :
  (execOp ρ o).run Tryz.prog w = .ok (.value (.slice (some ⟨w.heap.size,0,none⟩) 1 1)) (w.alloc (codEn.ro [x])):=by
 rw [bsOp 49 ρ o a ho w,ha,bsR_En]
structure EnAt (w:World) (b:Nat) (r:EnW):Prop where
 path:w.cell? ⟨b,0,none⟩ = some (.string (str r.Path))
 node:codS.rd w b 1 = some r.Node
 heads:w.cell? ⟨b,3,none⟩ = some (.slice r.A r.n r.c)
theorem enAt {w:World} {b:Nat} {r:EnW} (h:codEn.rd w b 0 = some r):EnAt w b r:=by
 have e (k:Nat) {v:Value} (hv:(codEn.cs r)[k]? = some v):=by simpa using Cod.rd_cell h k hv
 have s (k:Nat) {x:St} (hv:∀ j v,(codS.cs x)[j]? = some v → (codEn.cs r)[k + j]? = some v):=by simpa using Cod.rd_part (C':=codS) h k hv
 exact ⟨e 0 rfl,s 1 (get2 _ _ 1 rfl rfl),e 3 rfl⟩
structure EnAtO (w:World) (b o:Nat) (r:EnW):Prop where
 path:w.cell? ⟨b,o,none⟩ = some (.string (str r.Path))
 node:codS.rd w b (o + 1) = some r.Node
 heads:w.cell? ⟨b,o + 3,none⟩ = some (.slice r.A r.n r.c)
theorem enAtO {w:World} {b o:Nat} {r:EnW} (h:codEn.rd w b o = some r):EnAtO w b o r:=by
 have e (k:Nat) {v:Value} (hv:(codEn.cs r)[k]? = some v):=Cod.rd_cell h k hv
 have s (k:Nat) {x:St} (hv:∀ j v,(codS.cs x)[j]? = some v → (codEn.cs r)[k + j]? = some v):=Cod.rd_part (C':=codS) h k hv
 exact ⟨e 0 rfl,s 1 (get2 _ _ 1 rfl rfl),e 3 rfl⟩
structure EnO (w:World) (r:EnW) (x:EnP):Prop where
 eq:x = ⟨r.Path,r.Node,x.Heads⟩
 len:x.Heads.length = r.n
 own:w.ownsRow 0 78 34 (.slice r.A r.n r.c) r.n (codH.row x.Heads)
theorem EnO.path {w:World} {r:EnW} {x:EnP} (h:EnO w r x):x.Path = r.Path:=by rw [h.eq]
theorem EnO.node {w:World} {r:EnW} {x:EnP} (h:EnO w r x):x.Node = r.Node:=by rw [h.eq]
theorem EnO.frH {M:Nat → Prop} {w w':World} {r:EnW} {x:EnP} (h:EnO w r x) (f:Fr M w w') (hM:NoH M w):EnO w' r x :=
 ⟨h.eq,h.len,own_hs h.own f hM⟩
theorem NoH.nob (w:World):NoH noB w:=fun b hb=>absurd hb (by simp [noB])
theorem NoH.ownEn {w w0:World} {A:Option Addr} {c:Nat} {l:List EnW} (h:OwnC codEn w0 w A c l):NoH (fun b=>A.map (·.block) = some b) w:=by
 have:=NoHS.own h (by decide) (by decide)
 rw [ownBlock_sl'] at this
 exact fun b hb cs z=>(this b hb cs z).1
theorem bldEn (w:World) (s:St) (m:List UInt8) (A:Option Addr) (n c:Nat):(Instr.build 57 #[(0,.string (str m)),(1,.agg (codS.A s)),(2,.slice A n c)]).run Tryz.prog w = .ok (.agg (codEn.A ⟨m,s,A,n,c⟩)) w:=by
 have e:codS.A s = #[.int .i64 s.T,.int .i64 s.R]:=by rw [Cod.A_eq];rfl
 rw [e,Cod.A_eq];go_simp;rfl
theorem ex_bldEn_at {ρ:Operand → Value} {o:Oper} {x y z:Operand} {w:World} {s:St} {m:List UInt8} {A:Option Addr} {n c:Nat} (ho:o.op = .build 57 #[(0,x),(1,y),(2,z)]) (hx:ρ x = .string (str m)) (hy:ρ y = .agg (codS.A s)) (hz:ρ z = .slice A n c) :
  (execOp ρ o).run Tryz.prog w = .ok (.value (.agg (codEn.A ⟨m,s,A,n,c⟩))) w:=by
 refine ex_buildG 57 ρ o #[(0,x),(1,y),(2,z)] w w _ ho ?_
 have:=bldEn w s m A n c
 simpa [hx,hy,hz] using this
theorem shown_linkI {w:World} {us:List RwW} {vs:List RwP} (h:RwsIn w us vs) (i:Nat) {r:RwW} {x:RwP} (hr:RwIn w r x):shownM us i r = shownD vs i x:=by
 have h':AllO RwIn w us vs:=⟨h.len,h.at_⟩
 unfold shownM shownD twiceD
 rw [(h'.take i).any (fun y=>decide (y.Name = r.Name)) (fun y=>decide (y.Name = x.Name)) (fun a b hab=>by rw [hab.name,hr.name]),hr.name,hr.node]
theorem shownD_len {us:List RwP} {i:Nat} {x:RwP} (hn:nameOk x.Name = true) (hw:wfS x.Node = true):(shownD us i x).length ≤ 150:=by
 have h1:x.Name.length ≤ 60:=by
  unfold nameOk at hn
  simp only [Bool.and_eq_true,decide_eq_true_eq] at hn
  exact hn.1.1.1.2
 unfold wfS at hw
 simp only [Bool.and_eq_true,decide_eq_true_eq] at hw
 have L1:=Lib.itoa_length_le x.Node.T hw.1.1.1 hw.1.1.2
 have L2:=Lib.itoa_length_le x.Node.R hw.1.2 hw.2
 unfold shownD
 split
 ·unfold sfxD
  simp only [List.length_append,List.length_cons]
  omega
 ·omega
def LsTo (w:World) (xs:List EnP) (e:Ending) (w':World):Prop:=∃ A c os,e = .returned (.slice A os.length c) ∧ OwnC codEn w w' A c os ∧ AllO EnO w' os xs ∧ Fr noB w w'
structure LsR (w:World) (xs:List RwP) (k:Nat) (us:List RwP) (ah:List UInt8) (i:Nat) (A:Option Addr) (c:Nat) (os:List EnW) (wr:World):Prop where
 own:OwnC codEn w wr A c os
 all:AllO EnO wr os (listK xs k us ah i)
 fr:Fr noB w wr
theorem LsR.fr0 {w wr w':World} {xs:List RwP} {k:Nat} {us:List RwP} {ah:List UInt8} {i:Nat} {A:Option Addr} {c:Nat} {os:List EnW} (h:LsR w xs k us ah i A c os wr) (f:Fr noB wr w'):LsR w xs k us ah i A c os w' :=
 ⟨own_new0 h.own f,h.all.map fun r x k=>k.frH f (NoH.nob _),h.fr.step0 f⟩
def LsQ (w:World) (xs:List RwP) (k:Nat) (us:List RwP) (ah:List UInt8) (N:Nat) (gk:Nat) (ov iv:Value) (wr:World):Prop :=
 ∃ (i:Nat) (A:Option Addr) (c:Nat) (os:List EnW),iv = .int .i64 (i:Int) ∧ gk = N - i ∧ i ≤ N ∧ ov = .slice A os.length c ∧ LsR w xs k us ah i A c os wr
theorem own0En (W w:World):OwnC codEn W w none 0 []:=World.ownsRow_nil _ _ _ _
def ListS (k:Nat):Prop:=∀ (d:Nat) (p:St) (ah:List UInt8) (w:World) (A:Option Addr) (c n:Nat) (rs:List RwW) (xs:List RwP) (_:rs.length = n) (_:Sl w A (codR.row rs)) (_:RwsIn w rs xs) (_:TreeOk xs) (_:HasT w) (_:lev xs d p) (_:xs.length ≤ d + k) (_:ah.length ≤ 200 * d),
  Calls Tryz.prog 40 #[.slice A n c,.agg (codS.A p),.string (str ah)] w (LsTo w (listF xs k p ah))
set_option maxRecDepth 100000 in
set_option maxHeartbeats 4000000 in
theorem list_step (k:Nat) (ih:∀ k',k = k' + 1 → ListS k'):ListS k:=by
 intro d p ah w A c n rs xs hn hs hX ht hT hl hk hah
 subst hn
 have HS:=Lib.hid hs
 have HX:=Lib.hid hX
 have HT:=Lib.hid ht
 have HTB:=Lib.hid hT
 have HL:=Lib.hid hl
 have HK:=Lib.hid hk
 have HAH:=Lib.hid hah
 have HD:=Lib.hid (lev_le hl)
 have HN5:=Lib.hid ht.len
 have HLN:=Lib.hid hX.len
 have HFU:=Lib.hid (show listF xs k p ah = listK xs (k - 1) (kidsD xs p) ah (kidsD xs p).length by
  cases k with
  | zero=>rw [kids_none ht hl (by omega)];rfl
  | succ k=>exact listF_succ xs k p ah)
 have HFL:=Lib.hid (listF_len ht k hl ah)
 have HKP:=Lib.hid (show 0 < (kidsD xs p).length → k = (k - 1) + 1 from fun h=>by
  rcases Nat.eq_zero_or_pos k with e | e
  ·have:=kids_none ht hl (by omega);omega
  ·omega)
 have KC:=Lib.hid (fun w' (f:Fr noB w w')=>kids_any w' A c rs.length rs rfl (hs.fr0 f) (by have:=ht.len;have:=hX.len;omega) p)
 have HKI:=Lib.hid (fun w' (f:Fr noB w w')=>kidsM_in (p:=p) (hX.fr f))
 have IH:=Lib.hid ih
 have f0:Fr noB w (w.alloc (.cells (codS.A p) 24)):=(Fr.refl noB w).alloc _
 have q0:=Cod.rd_new (C:=codS) w 24 p
 clear hs hX ht hT hl hk hah ih
 go_enter Tryz.func40,Tryz.ntmps40
 go_upto_region 2 with fail
 generalize w.alloc (.cells (codS.A p) 24) = w0 at f0 q0 ⊢
 generalize w.heap.size = Q at q0 ⊢
 have F0:=Lib.hid f0
 have KC:=Lib.hid (KC.out w0 f0)
 clear f0
 go_upto_region 3 with (go_at_call 71;refine KC.out.mono ?_;rintro e w1 ⟨A1,c1,rfl,o1,f1⟩)
 have F1:=Lib.hid (F0.out.step0 f1)
 have HUV:=HKI.out w1 F1.out
 have hus:(kidsM rs p).length = (kidsD xs p).length:=HUV.len
 have HUL:=Lib.hid (show (kidsM rs p).length ≤ 5000 by have:=kidsM_len rs p;have:=HN5.out;have:=HLN.out;omega)
 have HUC:=Lib.hid (show (kidsM rs p).length ≤ c1 by obtain ⟨_,_,e,h,_⟩:=own_form o1;injection e with _ _ e;omega)
 have HUS:=Lib.hid (Sl.own o1)
 have HVK:=Lib.hid (fun i (hi:i < (kidsD xs p).length)=>lev_kids HT.out HL.out hi)
 have HVM:=Lib.hid (fun i (hi:i < (kidsD xs p).length)=>show (kidsD xs p)[i] ∈ xs from (kids_in hi).1)
 generalize kidsM rs p = us at HUV hus HUL HUC HUS ⊢
 generalize kidsD xs p = vs at HUV hus HVK HVM HFU HKP
 have HUV:=Lib.hid HUV
 have HUE:=Lib.hid hus
 clear KC HKI o1 f1 q0 hus
 go_wp2_with fail
 go_loopg [7,17] us.length (fun gk ov iv wr=>LsQ w1 xs (k - 1) vs ah us.length gk ov iv wr)
 case atStart=>exact ⟨0,none,0,[],rfl,by omega,by omega,rfl,own0En _ _,AllO.nil,Fr.refl _ _⟩
 case round =>
  obtain ⟨i,A3,c3,os,rfl,rfl,hi,rfl,hR⟩:=hrel
  have HR:=Lib.hid hR
  clear hR
  by_cases hlt:i < us.length
  ·have i1:(i:Int) < (us.length:Int):=by omega
   have i0:(0:Int) ≤ (i:Int):=by omega
   have hiv:i < vs.length:=by rw [← HUE.out];exact hlt
   have HLT:=Lib.hid (And.intro hlt hiv)
   have hin:=HUV.out.at_ i hlt hiv
   have HIN:=Lib.hid hin
   have HXM:=HVM.out i hiv
   have HSHL:=Lib.hid (shownD_len (us:=vs) (i:=i) (x:=vs[i]) (((rightR_iff _).1 (HT.out.ok _ (HVM.out i hiv))).1.2.2.2.1) (by rw [hin.node];exact hin.wn))
   have HKS:=Lib.hid (listK_snoc xs (k - 1) vs ah i hiv)
   have HLE:=Lib.hid (show (listK xs (k - 1) vs ah (i + 1)).length ≤ 5000 by have:=listK_le xs (k - 1) vs ah (show i + 1 ≤ vs.length by omega);have:=HFL.out;rw [HFU.out] at this;have:=HN5.out;omega)
   have FW:=Lib.hid (F1.out.step0 HR.out.fr)
   have SH:=fun w' (f:Fr noB wr w')=>shown_any w' A1 c1 us.length us rfl (HUS.out.fr0 (HR.out.fr.step0 f)) HUC.out (by have:=HUL.out;omega) i hlt (HTB.out.fr (FW.out.step0 f)) hin.wn hin.nm
   rw [shown_linkI HUV.out i hin] at SH
   have HINR:=Lib.hid (hin.fr HR.out.fr)
   have HLV:=Lib.hid (HVK.out i hiv)
   have IHK:=Lib.hid (IH.out (k - 1) (HKP.out (by omega)))
   have hsl:=HUS.out.fr0 HR.out.fr
   obtain ⟨g,off,rfl,hg⟩:=Sl.addr hsl (by omega)
   have ro:codR.rd wr g (off + i * 8) = some us[i]:=Sl.rd hsl i hlt
   generalize us[i] = r at ro HINR SH
   generalize vs[i] = x at HINR SH HKS HLV HSHL HXM
   generalize shownD vs i x = sh at SH HKS HSHL
   have SH:=Lib.hid SH
   clear hsl hg hlt hiv hin hi HIN
   go_upto_region 6 with fail
   have f6:Fr noB wr (wr.alloc (codR.o r)):=(Fr.refl noB wr).alloc _
   have q6:=rwAt (Cod.rd_new' (C:=codR) wr r)
   have R6:=HR.out.fr0 f6
   have SH:=Lib.hid (SH.out _ f6)
   have HIN6:=Lib.hid (HINR.out.fr f6)
   have HBN:=Lib.hid (Cod.bxd_new (C:=codR) wr r)
   clear f6 ro
   generalize wr.alloc (codR.o r) = w6 at q6 R6 SH HIN6 HBN ⊢
   generalize wr.heap.size = R at q6 HBN ⊢
   have Q6:=Lib.hid q6
   have R6:=Lib.hid R6
   have hz1:¬ 9223372036854775807 < (str ah).size + (str sh).size:=by rw [sz_str,sz_str];have:=HSHL.out;have:=HAH.out;have:=HD.out;have:=HN5.out;omega
   have hz2:str ah ++ str sh = str (ah ++ sh):=str_appW _ _
   clear q6
   go_upto_region 7 with (go_at_call 72;refine SH.out.mono ?_;rintro e w7 ⟨rfl,f7⟩)
   have R7:=Lib.hid (R6.out.fr0 f7)
   have Q7:=Lib.hid (Cod.rd_fr0 Q6.out.self f7)
   have HIN7:=Lib.hid (HIN6.out.fr f7)
   have HB7:=Lib.hid (Cod.bxd_fr0 HBN.out f7)
   have HAP:=Lib.hid (show (ah ++ sh).length ≤ 200 * d + 150 by rw [List.length_append];have:=HSHL.out;have:=HAH.out;omega)
   clear hz1 hz2 f7 SH R6 Q6 HIN6 HBN
   generalize ah ++ sh = ap at HAP HKS ⊢
   have HHS:=Lib.hid (heads_small HT.out x HXM)
   have keep:∀ w' w'':World,Fr noB w' w'' → (codS.rd w' R 0 = some r.Node ∧ w'.cell? ⟨R,7,none⟩ = some (.slice r.A r.n r.c)) → (codS.rd w'' R 0 = some r.Node ∧ w''.cell? ⟨R,7,none⟩ = some (.slice r.A r.n r.c)):=fun w' w'' f h=>⟨Cod.rd_fr0 h.1 f,cell_fr0 h.2 f⟩
   have FD:=Lib.hid (show Fr noB w7 w7.drew from (Fr.refl noB w7).drew)
   have hF0:=keep w7 w7.drew FD.out ⟨(rwAt Q7.out).node,(rwAt Q7.out).heads⟩
   have R8:=Lib.hid (R7.out.fr0 FD.out)
   have CS:=Lib.hid (clHeads_any w7.drew r.A r.c x.Heads r.n HIN7.out.len (HIN7.out.sl.fr0 FD.out) HHS.out)
   have HB8:=Lib.hid (Cod.bxd_fr0 HB7.out FD.out)
   refine wp_region_M 10 11 [⟨134217728,128,0⟩,⟨268435456,2048,0⟩,⟨536870912,1024,0⟩,⟨1073741824,536870912,4⟩,⟨2147483648,1024,0⟩,⟨4294967296,2147483648,16⟩,⟨8589934592,4294967296,32⟩,⟨17179869184,9932111872,74⟩,⟨34359738368,17179869184,128⟩,⟨68719476736,34493956096,321⟩,⟨128,68719476736,1023⟩] [(true,0),(true,1),(true,2),(true,3),(true,4),(true,5),(false,6),(true,7),(false,8),(false,9)] (fun w'=>codS.rd w' R 0 = some r.Node ∧ w'.cell? ⟨R,7,none⟩ = some (.slice r.A r.n r.c)) (by kernel_rfl) rfl (by kernel_rfl) (by kernel_rfl) (by kernel_rfl) hF0 (fun hA hF=>?_)
   clear hF0
   generalize w7.drew = V at R8 CS HB8 hF ⊢
   iterate 6
    refine wpAnyS_take (v:=?_) hA rfl (fun _ _ _ h=>h) (Or.inl ⟨by rfl,?_⟩) hF (fun hA=>?_)
    rotate_left
    ·intro wS hSw;(try dsimp only at hSw);obtain ⟨s1,s2⟩:=hSw;first | (apply Eq.trans;apply ex_ldS_at;exact rfl;exact rfl;assumption;with_reducible rfl) | (apply Eq.trans;apply ex_bldEn_at;exact rfl;exact rfl;exact rfl;exact rfl;with_reducible rfl) | (go_simp;try with_reducible rfl)
    try simp only [sA1,sA2,sA3,Act.put,sA4,sA5,sA6]
   refine wpAnyS_one hA rfl (fun K' hK=>?_)
   go_simp
   go_at_call 63
   refine CS.out.mono ?_
   rintro e u1 ⟨A4,c4,rfl,o4,f4⟩
   replace hF:=keep _ _ f4 hF
   refine hK.out _ _ hF (fun hA=>?_)
   clear hK K'
   try simp only [sA1,sA2,sA3,Act.put,sA4,sA5,sA6]
   refine wpAnyS_take (v:=?_) hA rfl (fun _ _ _ h=>h) (Or.inl ⟨by rfl,?_⟩) hF (fun hA=>?_)
   rotate_left
   ·intro wS hSw;(try dsimp only at hSw);obtain ⟨s1,s2⟩:=hSw;first | (apply Eq.trans;apply ex_ldS_at;exact rfl;exact rfl;assumption;with_reducible rfl) | (apply Eq.trans;apply ex_bldEn_at;exact rfl;exact rfl;exact rfl;exact rfl;with_reducible rfl) | (go_simp;try with_reducible rfl)
   try simp only [sA1,sA2,sA3,Act.put,sA4,sA5,sA6]
   refine wpAnyS_one hA rfl (fun K' hK=>?_)
   refine wk_runV _ _ (ex_bsEn_at (x:=⟨ap,r.Node,A4,x.Heads.length,c4⟩) rfl rfl) ?_
   have f5:Fr noB u1 (u1.alloc (codEn.ro [⟨ap,r.Node,A4,x.Heads.length,c4⟩])):=(Fr.refl noB u1).alloc _
   have sl:=Cod.sl_new (C:=codEn) u1 [⟨ap,r.Node,A4,x.Heads.length,c4⟩]
   replace hF:=keep _ _ f5 hF
   refine hK.out _ _ hF (fun hA=>?_)
   clear hK K'
   try simp only [sA1,sA2,sA3,Act.put,sA4,sA5,sA6]
   have R9:=R8.out.fr0 (f4.step0 f5)
   have hz:EnO (u1.alloc (codEn.ro [⟨ap,r.Node,A4,x.Heads.length,c4⟩])) ⟨ap,r.Node,A4,x.Heads.length,c4⟩ ⟨ap,x.Node,x.Heads⟩:=⟨by rw [HIN7.out.node],rfl,own_base (own_new0 o4 f5) (Nat.zero_le _)⟩
   have hbn:=Cod.bxd_fr0 HB8.out (f4.step0 f5)
   have hol:os.length + 1 ≤ 5000:=by
    have h1:=HLE.out
    rw [HKS.out] at h1
    have h2:=R9.all.1
    simp only [List.length_append,List.length_cons,List.length_nil] at h1
    omega
   refine wpAnyS_one hA rfl (fun K' hK=>?_)
   refine step_appC' etEn w1 _ rfl _ _ rfl A3 os.length c3 os rfl rfl R9.own (some ⟨u1.heap.size,0,none⟩) 1 1 [⟨ap,r.Node,A4,x.Heads.length,c4⟩] rfl sl rfl (by simp;omega) R9.fr.size ?_
   generalize u1.alloc (codEn.ro [⟨ap,r.Node,A4,x.Heads.length,c4⟩]) = u2 at R9 hz hbn hF ⊢
   intro A7 c7 w8 hc7 hm7 o7 g7 hA7
   have fM:Fr (fun b=>A3.map (·.block) = some b) u2 w8:=Fr.ofGrown g7 (fun g hg=>hg)
   have hne:¬ A3.map (·.block) = some R:=fun e=>by
    obtain ⟨_,cur,z,h1⟩:=own_blkW R9.own e
    have h2:=Cod.bxd_blk hbn
    unfold Blk at h2
    rw [h1] at h2
    injection h2 with h2
    injection h2 with _ h2
    exact absurd h2 (by decide)
   replace hF:=(⟨Cod.rd_fr hF.1 fM hne,cell_frM hF.2 fM hne⟩:codS.rd w8 R 0 = some r.Node ∧ w8.cell? ⟨R,7,none⟩ = some (.slice r.A r.n r.c))
   have F8:=Lib.hid (wk_own R9.fr R9.own g7)
   have AL8:=Lib.hid ((R9.all.map fun r x k=>k.frH fM (NoH.ownEn R9.own)).snoc (hz.frH fM (NoH.ownEn R9.own)))
   have O7:=Lib.hid o7
   obtain ⟨os7,ho7⟩:∃ os7,os7 = os ++ [⟨ap,r.Node,A4,x.Heads.length,c4⟩]:=⟨_,rfl⟩
   rw [← ho7] at O7 AL8 ⊢
   have qn:=hF.1
   refine hK.out _ _ hF (fun hA=>?_)
   clear hK K'
   refine wpAnyS_end hA rfl ?_
   simp only [List.drop_succ_cons,List.drop_zero]
   clear hF keep sl R9 hz hbn fM hne o7 g7 hA7 ho7 o4 f4 f5 hc7 hm7
   go_upto_region 8 with fail
   have hz3:str ap ++ ⟨#[47]⟩ = str (ap ++ [47]):=str_appW ap [47]
   have hz4:¬ 9223372036854775807 < (str ap).size + 1:=by rw [sz_str];have:=HAP.out;have:=HD.out;have:=HN5.out;omega
   have F8w:=F1.out.step0 F8.out
   have IC:=IHK.out (d + 1) x.Node (ap ++ [47]) w8 A c rs.length rs xs rfl (HS.out.fr0 F8w) (HX.out.fr F8w) HT.out (HTB.out.fr F8w) HLV.out (by have:=HK.out;have:=HKP.out (by have:=HLT.out.2;omega);omega) (by rw [List.length_append];show ap.length + 1 ≤ _;have:=HAP.out;omega)
   rw [HIN7.out.node] at IC
   have IC:=Lib.hid IC
   clear F8w
   have HLE2:=Lib.hid (show ∀ os9:List EnW,os9.length = (listF xs (k - 1) r.Node (ap ++ [47])).length → os7.length + os9.length ≤ 5000 from fun os9 h=>by
    have h1:=HLE.out
    rw [HKS.out,HIN7.out.node] at h1
    have h2:=AL8.out.1
    simp only [List.length_append,List.length_cons,List.length_nil] at h1 h2
    omega)
   have HWK:=Lib.hid (IntWalk.wrap64_in ((i:Int) + 1) (by have:=HLT.out.1;have:=HUL.out;omega))
   go_wp2_with (first
    | (go_at_call 40;refine IC.out.mono ?_;rintro e w9 ⟨A9,c9,os9,rfl,o9,a9,f9⟩)
    | (at_builtin;refine wpList_appC' etEn w1 _ rfl _ _ rfl A7 os7.length c7 os7 rfl rfl (own_new0 O7.out f9) A9 os9.length c9 os9 rfl (Sl.own o9) rfl (by have:=HLE2.out os9 a9.1;omega) (F8.out.step0 f9).size ?_;intro A10 c10 w10 hc10 hm10 o10 g10 hA10))
   have fM:Fr (fun b=>A7.map (·.block) = some b) w9 w10:=Fr.ofGrown g10 (fun g hg=>hg)
   have FR:=Lib.hid (wk_own (F8.out.step0 f9) (own_new0 O7.out f9) g10)
   have hnh:NoH (fun b=>A7.map (·.block) = some b) w9:=NoH.ownEn (own_new0 O7.out f9)
   have AL:=Lib.hid (((AL8.out.map fun r x k=>k.frH f9 (NoH.nob _)).map fun r x k=>k.frH fM hnh).app (a9.map fun r x k=>k.frH fM hnh))
   have O10:=Lib.hid o10
   clear fM hnh o10 o9 a9 f9 g10 hA10 hc10 hm10 hz3 hz4 qn
   go_roundg (us.length - (i + 1))
   case measure=>have:=HLT.out;omega
   case rel =>
    refine ⟨i + 1,A10,c10,os7 ++ os9,by first | (simp;done) | (rw [HWK.out];rfl) | exact congrArg (Value.int .i64) HWK.out,rfl,by have:=HLT.out;omega,by rw [List.length_append],O10.out,?_,FR.out⟩
    rw [HKS.out,HIN7.out.node]
    have h:=AL.out
    rw [HIN7.out.node] at h
    exact h
  ·have hie:i = us.length:=by omega
   have i1:¬ (i:Int) < (us.length:Int):=by omega
   have HIE:=Lib.hid (show i = vs.length by rw [hie];exact HUE.out)
   clear hie hlt hi
   go_wp2_with fail
   go_ret
   have ha:=HR.out.all
   rw [HIE.out,← HFU.out] at ha
   exact ⟨A3,c3,os,rfl,own_base HR.out.own F1.out.size,ha,F1.out.step0 HR.out.fr⟩
theorem list_any (k:Nat):ListS k:=by
 induction k with
 | zero=>exact list_step 0 (fun k' e=>by omega)
 | succ k ih=>exact list_step (k + 1) (fun k' e=>by obtain rfl:k = k':=by omega
                                                    exact ih)
end Go.Proofs.YthehiobacjjakaaGreatDoor
namespace Go.Proofs.YthehiobacjjakaaGreatDoor
open Go.RowKit Go.Maps Go.Sort Go.Shelf
theorem AllO.perm {α β:Type} {R:World → α → β → Prop} {w:World} {rs rs':List α} (hp:rs'.Perm rs):∀ {xs:List β},AllO R w rs xs → ∃ xs',xs'.Perm xs ∧ AllO R w rs' xs':=by
 induction hp with
 | nil=>exact fun h=>⟨_,.refl _,h⟩
 | cons r _ ih =>
  intro xs h
  match xs,h with
  | [],h=>have:=h.1;simp at this
  | x :: xs,h =>
   obtain ⟨ys,h1,h2⟩:=ih h.tail.2
   exact ⟨x :: ys,h1.cons x,AllO.cons h.tail.1 h2⟩
 | swap a b l =>
  intro xs h
  match xs,h with
  | [],h=>have:=h.1;simp at this
  | [x],h=>have:=h.1;simp at this
  | x :: y :: xs,h=>exact ⟨y :: x :: xs,.swap x y xs,AllO.cons h.tail.2.tail.1 (AllO.cons h.tail.1 h.tail.2.tail.2)⟩
 | trans _ _ ih1 ih2 =>
  intro xs h
  obtain ⟨ys,h1,h2⟩:=ih2 h
  obtain ⟨zs,h3,h4⟩:=ih1 h2
  exact ⟨zs,h3.trans h1,h4⟩
def cfQ (p:List UInt8 × St) (q:List UInt8 × St):Int:=orI (cmpB p.1 q.1) (cmpS p.2 q.2)
theorem cfQ_lt {p q:List UInt8 × St}:cfQ p q < 0 ↔ Op.bytesLess p.1 q.1 = true ∨ (p.1 = q.1 ∧ cmpS p.2 q.2 < 0):=by
 unfold cfQ
 rw [orI_eq]
 split
 ·rename_i h
  have:=cmpB_zero.1 h
  rw [this,less_self]
  simp
 ·rename_i h
  rw [cmpB_lt]
  have:p.1 ≠ q.1:=fun e=>h (cmpB_zero.2 e)
  simp [this]
theorem cfQ_self (p:List UInt8 × St):cfQ p p = 0:=by unfold cfQ;rw [orI_eq,cmpB_self,cmpS_self];rfl
theorem cfQ_trans {a b c:List UInt8 × St} (h1:cfQ a b < 0) (h2:cfQ b c < 0):cfQ a c < 0:=by
 rw [cfQ_lt] at *
 rcases h1 with h1 | ⟨e1,h1⟩
 ·rcases h2 with h2 | ⟨e2,h2⟩
  ·exact .inl (less_trans h1 h2)
  ·rw [e2] at h1;exact .inl h1
 ·rcases h2 with h2 | ⟨e2,h2⟩
  ·rw [← e1] at h2;exact .inl h2
  ·exact .inr ⟨e1.trans e2,cmpS_trans h1 h2⟩
theorem cfQ_tri {a b:List UInt8 × St} (h1:¬ cfQ a b < 0) (h2:¬ cfQ b a < 0):a = b:=by
 rw [cfQ_lt] at h1 h2
 have e:a.1 = b.1:=less_tri (Bool.eq_false_iff.2 fun h=>h1 (.inl h)) (Bool.eq_false_iff.2 fun h=>h2 (.inl h))
 have h3:¬ cmpS a.2 b.2 < 0:=fun h=>h1 (.inr ⟨e,h⟩)
 have h4:¬ cmpS b.2 a.2 < 0:=fun h=>h2 (.inr ⟨e.symm,h⟩)
 have:=cmpS_flip a.2 b.2
 exact Prod.ext e (cmpS_zero.1 (by omega))
theorem swoQ {α:Type} (f:α → List UInt8 × St):SWO (ltOf fun x y:α=>cfQ (f x) (f y)) where
 irrefl x:=by simp [ltOf,cfQ_self]
 trans x y z h1 h2:=by
  simp only [ltOf,decide_eq_true_eq] at *
  exact cfQ_trans h1 h2
 ntrans x y z h1 h2:=by
  simp only [ltOf,decide_eq_false_iff_not] at *
  intro h
  by_cases h3:cfQ (f y) (f x) < 0
  ·exact h2 (cfQ_trans h3 h)
  ·have:=cfQ_tri h1 h3
   rw [this] at h
   exact h2 h
def pnW (x:EnW):List UInt8 × St:=(x.Path,x.Node)
def pnP (x:EnP):List UInt8 × St:=(x.Path,x.Node)
theorem EnO.pn {w:World} {r:EnW} {x:EnP} (h:EnO w r x):pnP x = pnW r:=by unfold pnP pnW;rw [h.path,h.node]
set_option maxRecDepth 100000 in
set_option maxHeartbeats 4000000 in
theorem ls1X_any (w:World) (x y:EnW):Calls Tryz.prog 42 #[.agg (codEn.A x),.agg (codEn.A y)] w (GivesX w (.int .i64 (cfQ (pnW x) (pnW y)))):=by
 have b0:codEn.bxd (w.alloc (.cells (codEn.A x) 57)) w.heap.size = some x:=Cod.bxd_box (C:=codEn) w x
 have b1:=Cod.bxd_fr0 b0 ((Fr.refl noB _).alloc (.cells (codEn.A y) 57))
 have b2:codEn.bxd ((w.alloc (.cells (codEn.A x) 57)).alloc (.cells (codEn.A y) 57)) (w.alloc (.cells (codEn.A x) 57)).heap.size = some y:=Cod.bxd_box (C:=codEn) _ y
 have hz:(w.alloc (.cells (codEn.A x) 57)).heap.size = w.heap.size + 1:=by simp
 rw [hz] at b2
 have g0:Gr w ((w.alloc (.cells (codEn.A x) 57)).alloc (.cells (codEn.A y) 57)):=((Gr.refl w).alloc _).alloc _
 have q1:=enAt (Cod.bxd_rd b1)
 have q2:=enAt (Cod.bxd_rd b2)
 have HC:=Lib.hid (show orI (cmpB x.Path y.Path) (cmpS x.Node y.Node) = cfQ (pnW x) (pnW y) from rfl)
 generalize cfQ (pnW x) (pnW y) = res at HC ⊢
 clear b0 b1 b2 hz
 go_enter Tryz.func42,Tryz.ntmps42
 go_upto_region 1 with fail
 generalize (w.alloc (.cells (codEn.A x) 57)).alloc (.cells (codEn.A y) 57) = W0 at g0 q1 q2 ⊢
 generalize w.heap.size + 1 = Q at q2 ⊢
 generalize w.heap.size = R at q1 ⊢
 have hk:∀ w' w'':World,Fr noB w' w'' → (w'.cell? ⟨R,0,none⟩ = some (.string (str x.Path)) ∧ w'.cell? ⟨Q,0,none⟩ = some (.string (str y.Path)) ∧ codS.rd w' R 1 = some x.Node ∧ codS.rd w' Q 1 = some y.Node) → (w''.cell? ⟨R,0,none⟩ = some (.string (str x.Path)) ∧ w''.cell? ⟨Q,0,none⟩ = some (.string (str y.Path)) ∧ codS.rd w'' R 1 = some x.Node ∧ codS.rd w'' Q 1 = some y.Node):=fun w' w'' f h=>⟨cell_fr0 h.1 f,cell_fr0 h.2.1 f,Cod.rd_fr0 h.2.2.1 f,Cod.rd_fr0 h.2.2.2 f⟩
 have fd:Fr noB W0 W0.drew:=(Fr.refl noB W0).drew
 have g1:=g0.drew
 refine wp_region_M 12 13 [⟨32,4,0⟩,⟨64,32,1⟩,⟨128,8,0⟩,⟨256,128,4⟩,⟨512,320,10⟩,⟨1024,4,0⟩,⟨2048,1024,32⟩,⟨4096,8,0⟩,⟨8192,4096,128⟩,⟨16384,10240,336⟩,⟨32768,16896,528⟩,⟨65536,32768,1536⟩,⟨16,65536,4095⟩] [(true,0),(true,1),(true,2),(true,3),(true,5),(true,6),(true,7),(true,8),(false,4),(false,9),(false,10),(false,11)] (fun w'=>w'.cell? ⟨R,0,none⟩ = some (.string (str x.Path)) ∧ w'.cell? ⟨Q,0,none⟩ = some (.string (str y.Path)) ∧ codS.rd w' R 1 = some x.Node ∧ codS.rd w' Q 1 = some y.Node) (by kernel_rfl) rfl (by kernel_rfl) (by kernel_rfl) (by kernel_rfl) (hk _ _ fd ⟨q1.path,q2.path,q1.node,q2.node⟩) (fun hA hF=>?_)
 iterate 8
  refine wpAnyS_take (v:=?_) hA rfl (fun _ _ _ h=>h) (Or.inl ⟨by rfl,?_⟩) hF (fun hA=>?_)
  rotate_left
  ·intro wS hSw;(try dsimp only at hSw);obtain ⟨s1,s2,s3,s4⟩:=hSw;first | (apply Eq.trans;apply ex_ldS_at;exact rfl;exact rfl;assumption;with_reducible rfl) | (go_simp;try with_reducible rfl)
  try simp only [sA1,sA2,sA3,Act.put,sA4,sA5,sA6]
 refine wpAnyS_one hA rfl (fun K' hK=>?_)
 go_simp
 go_at_call 44
 refine (compareS_any _ x.Path y.Path).mono ?_
 rintro e u1 ⟨rfl,rfl⟩
 replace hF:=hk _ _ (Fr.refl noB _) hF
 refine hK.out _ _ hF (fun hA=>?_)
 clear hK K'
 as_aux_lemma =>
 refine wpAnyS_one hA rfl (fun K' hK=>?_)
 go_simp
 go_at_call 45
 refine (scmpX_v _ x.Node y.Node).mono ?_
 rintro e u2 ⟨rfl,g2⟩
 have g3:=g1.trans g2
 replace hF:=hk _ _ (Gr.fr g2) hF
 refine hK.out _ _ hF (fun hA=>?_)
 clear hK K'
 as_aux_lemma =>
 refine wpAnyS_one hA rfl (fun K' hK=>?_)
 go_simp
 have f3:Fr noB u2 (u2.alloc (.cells #[.int .i64 (cmpB x.Path y.Path),.int .i64 (cmpS x.Node y.Node)] 3)):=(Fr.refl noB _).alloc _
 have s3:Sl (u2.alloc (.cells #[.int .i64 (cmpB x.Path y.Path),.int .i64 (cmpS x.Node y.Node)] 3)) (some ⟨u2.heap.size,0,none⟩) [.int .i64 (cmpB x.Path y.Path),.int .i64 (cmpS x.Node y.Node)]:=Sl.new u2 _ _
 have g4:=g3.alloc (.cells #[.int .i64 (cmpB x.Path y.Path),.int .i64 (cmpS x.Node y.Node)] 3)
 replace hF:=hk _ _ f3 hF
 refine hK.out _ _ hF (fun hA=>?_)
 clear hK K'
 as_aux_lemma =>
 refine wpAnyS_one hA rfl (fun K' hK=>?_)
 go_simp
 go_at_call 43
 refine (or_any _ _ _ (cmpB x.Path y.Path) (cmpS x.Node y.Node) s3).mono ?_
 rintro e u4 ⟨rfl,rfl⟩
 replace hF:=hk _ _ (Fr.refl noB _) hF
 refine hK.out _ _ hF (fun hA=>?_)
 clear hK K'
 as_aux_lemma =>
 refine wpAnyS_end hA rfl ?_
 simp only [List.drop_succ_cons,List.drop_zero]
 clear hF
 go_wp2_with fail
 go_ret
 exact ⟨by rw [HC.out];rfl,g4⟩
theorem cmpEn_lays (W w:World) (hW:W = w) (x y:EnW):Calls Tryz.prog 42 (#[.agg (codEn.cs x).toArray,.agg (codEn.cs y).toArray] ++ #[]) W fun e w'=>e = .returned (.int .i64 (cfQ (pnW x) (pnW y))) ∧ ∃ q os',w' = grow (W.drewN q) os':=by
 have:=ls1X_any W x y
 rw [Cod.A_eq,Cod.A_eq] at this
 rw [Array.append_empty]
 exact this
theorem srtEn_any (w0 w:World) (A:Option Addr) (c n:Nat) (l:List EnW) (hn:l.length = n) (ho:OwnC codEn w0 w A c l) (hl:l.length ≤ 1000000000000) :
  Calls Tryz.prog 41 #[.slice A n c,.func (.func 42) #[] #[]] w fun e w'=>e = .returned (.tuple #[]) ∧ ∃ l':List EnW,l'.Perm l ∧ l'.Pairwise (fun x y=>ltOf (fun x y=>cfQ (pnW x) (pnW y)) y x = false) ∧ OwnC codEn w0 w' A c l' ∧ Fr (fun b=>A.map (·.block) = some b) w w' :=
 srtC_any codEn Tryz.sortE (fun w=>Tryz.isAgg57 w) (fun w=>Tryz.sizeOf57 w) (fun x y=>cfQ (pnW x) (pnW y)) (swoQ pnW) 42 #[] (enters_of Tryz.func42 (by kernel_rfl) rfl) w0 w A c n l hn ho hl (fun blk _ _ _ m os dk _ x y=>cmpEn_lays _ _ rfl x y)
structure LiP (xs:List RwP) (ys:List EnP):Prop where
 tree:TreeOk xs → ys.Perm (listF xs xs.length zSt []) ∧ ys.Pairwise (fun a b=>¬ cfQ (pnP b) (pnP a) < 0)
 none:¬ TreeOk xs → ys = []
def LiTo (w:World) (xs:List RwP) (e:Ending) (w':World):Prop:=∃ A c os ys,e = .returned (.slice A os.length c) ∧ OwnC codEn w w' A c os ∧ AllO EnO w' os ys ∧ LiP xs ys ∧ Fr noB w w'
theorem pw_map {α β:Type} {R:World → α → β → Prop} {w:World} {P:α → α → Prop} {Q:β → β → Prop} (h:∀ a b x y,R w a x → R w b y → P a b → Q x y) {rs:List α} {xs:List β} (ha:AllO R w rs xs) (hp:rs.Pairwise P):xs.Pairwise Q:=by
 rw [List.pairwise_iff_getElem] at hp ⊢
 intro i j hi hj hij
 have hi':i < rs.length:=by rw [ha.1];exact hi
 have hj':j < rs.length:=by rw [ha.1];exact hj
 exact h _ _ _ _ (ha.2 i hi' hi) (ha.2 j hj' hj) (hp i j hi' hj' hij)
set_option maxRecDepth 100000 in
set_option maxHeartbeats 4000000 in
theorem li_any (w:World) (A:Option Addr) (c n:Nat) (rs:List RwW) (xs:List RwP) (hn:rs.length = n) (hs:Sl w A (codR.row rs)) (hb:rs.length ≤ 140737488355328) (hX:RwsIn w rs xs) (hbd:∀ x ∈ xs,x.Heads.length ≤ 2932031007402) (hT:HasT w) :
  Calls Tryz.prog 21 #[.slice A n c] w (LiTo w xs):=by
 have NT:=Lib.hid (ntree_any w A c n rs xs hn hs hb hX hbd)
 have LA:=Lib.hid (fun w' (f:Fr noB w w') (ht:TreeOk xs)=>list_any xs.length 0 zSt [] w' A c n rs xs hn (hs.fr0 f) (hX.fr f) ht (hT.fr f) (lev_fixed (by decide)) (by omega) (by simp))
 clear hn hs hb hX hbd hT
 go_enter Tryz.func21,Tryz.ntmps21
 by_cases ht:TreeOk xs
 ·have HT:=Lib.hid ht
  go_upto_region 3 with (go_at_call 28;refine NT.out.mono ?_;rintro e w1 ⟨b,rfl,f1,hbb⟩;have eb:b = true:=hbb.2 HT.out;rw [eb])
  have F1:=Lib.hid f1
  have LA:=Lib.hid (LA.out w1 f1 ht)
  have HLN:=Lib.hid (listF_len ht xs.length (lev_fixed (by decide:fixedS zSt = true)) [])
  have HN5:=Lib.hid ht.len
  clear hbb f1 eb ht
  go_upto_region 4 with (go_at_call 40;refine LA.out.mono ?_;rintro e w2 ⟨A2,c2,os,rfl,o2,a2,f2⟩)
  have SE:=Lib.hid (srtEn_any w1 w2 A2 c2 os.length os rfl o2 (by have:=a2.1;have:=HLN.out;have:=HN5.out;omega))
  have O2:=Lib.hid o2
  have A2':=Lib.hid a2
  have F2:=Lib.hid f2
  clear o2 a2 f2
  go_wp2_with (go_at_call 41;refine SE.out.mono ?_;rintro e w3 ⟨rfl,os',hp,hpw,o3,f3⟩)
  go_ret
  have a3:=A2'.out.map fun r x k=>k.frH f3 (NoH.ownEn O2.out)
  obtain ⟨ys,hy,ay⟩:=AllO.perm hp a3
  refine ⟨A2,c2,os',ys,by rw [← hp.length_eq];rfl,own_base o3 F1.out.size,ay,⟨fun _=>⟨hy,pw_map (fun a b x y ha hb h=>?_) ay hpw⟩,fun h=>absurd HT.out h⟩,F1.out.step0 (F2.out.step f3 fun b hb=>.inl (own_lt O2.out b hb).1)⟩
  rw [ha.pn,hb.pn]
  simpa [ltOf] using h
 ·have HT:=Lib.hid ht
  clear ht
  go_wp2_with (go_at_call 28;refine NT.out.mono ?_;rintro e w1 ⟨b,rfl,f1,hbb⟩;have eb:b = false:=(by cases b with | false=>rfl | true=>exact absurd (hbb.1 rfl) HT.out);rw [eb])
  go_ret
  exact ⟨none,0,[],[],rfl,own0En _ _,AllO.nil,⟨fun h=>absurd h HT.out,fun _=>rfl⟩,f1⟩
end Go.Proofs.YthehiobacjjakaaGreatDoor
