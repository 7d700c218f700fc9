/- Contract of work: Put. (rdI ex_ldS_at ex_bldHd_at) -/
import Derived.Test.YthehiobacjjakaaGreatDoorWlFKp
import Derived.Deep.CutRange
set_option linter.unusedVariables false
set_option linter.unusedSimpArgs false
namespace Go.Proofs.YthehiobacjjakaaGreatDoor
open Go.RowKit Go.Maps Go.Sort
set_option maxRecDepth 100000 in
@[simp] theorem nms_l (w:World) (a:Option Addr) (n c:Nat) (k:IntKind) (l:Int) :
  (Instr.slice 69 (.slice a n c) (some (.int k l)) none none).run Tryz.prog w = if 0 ≤ l ∧ l ≤ n then .ok (.slice (cutA a c l.toNat 1) (n - l.toNat) (c - l.toNat)) w else elseR ((Instr.slice 69 (.slice a n c) (some (.int k l)) none none).run Tryz.prog w):=by
 split
 ·rename_i h
  rw [run_slice_l w 69 a n c Tryz.underlying69 k l h.1 h.2];rfl
 ·exact elseR_eq _
theorem nms_cut {w:World} {A:Option Addr} {l:List (List UInt8)} (h:Sl w A (nmsV l)) {k c:Nat} (hk:k ≤ l.length) (hc:l.length ≤ c):Sl w (cutA A c k 1) (nmsV (l.drop k)):=by
 have:=h.cut (k:=k) (c:=c) (size:=1) (n:=l.length) (by rw [nmsV_len,Nat.mul_one]) (by decide) hc
 have e:(nmsV l).drop (k * 1) = nmsV (l.drop k):=by unfold nmsV;rw [List.map_drop,Nat.mul_one]
 rw [e] at this
 exact this
theorem Put1_any (w:World) (s:List UInt8):Calls Tryz.prog 52 #[.string (str s)] w (Gives w (.bool (s.contains 126))):=by
 have h:=tilde_any w s
 generalize s.contains 126 = b at h ⊢
 have H:=Lib.hid h
 clear h
 go_enter Tryz.func52,Tryz.ntmps52
 go_wp2_with (go_at_call 53;refine H.out.mono ?_;rintro e w2 ⟨rfl,f2⟩)
 go_ret
 exact ⟨rfl,f2⟩
theorem rdI_fr0 {w w':World} {b o:Nat} {x:ID} (h:rdI w b o = some x) (f:Fr noB w w'):rdI w' b o = some x:=rdI_fr h (rdI_lt h) f (by simp [noB])
/-! values built of parts -/
theorem bldRw (w:World) (s t u:St) (m:List UInt8):(Instr.build 60 #[(0,.agg (codS.A s)),(1,.agg (codS.A t)),(2,.agg (codS.A u)),(3,.string (str m))]).run Tryz.prog w = .ok (.agg (codR.A ⟨s,t,u,m,none,0,0⟩)) w:=by
 have e:∀ s:St,codS.A s = #[.int .i64 s.T,.int .i64 s.R]:=fun s=>by rw [Cod.A_eq];rfl
 rw [e,e,e,Cod.A_eq];go_simp;rfl
@[simp ↓] theorem ex_bldRw (ρ:Operand → Value) (x0 x1 x2 x3:Operand) (d:Option Nat) (t:TypeId) (p:String) (f:Array Edge) (g:Option (Nat × Bool)) (w:World) :
  (execOp ρ { dst:=d,op:=.build 60 #[(0,x0),(1,x1),(2,x2),(3,x3)],type:=t,pos:=p,after:=f,guard:=g }).run Tryz.prog w = mkB 60 w [(0,ρ x0),(1,ρ x1),(2,ρ x2),(3,ρ x3)]:=(exB ρ _ _ _ rfl w).trans (by simp only [List.map_toArray,List.map_cons,List.map_nil])
@[simp] theorem mkB_Rw (w:World) (s t u:St) (m:List UInt8):mkB 60 w [(0,.agg (codS.A s)),(1,.agg (codS.A t)),(2,.agg (codS.A u)),(3,.string (str m))] = .ok (.value (.agg (codR.A ⟨s,t,u,m,none,0,0⟩))) w:=mkB_ok (bldRw w s t u m)
theorem bldHd2 (w:World) (s:St) (x:ID):(Instr.build 78 #[(0,.agg (codS.A s)),(1,encI x)]).run Tryz.prog w = .ok (.agg (codH.A ⟨s,x⟩)) w:=by
 have h1:∀ place:Nat → Option (Nat × Nat),place 0 = some (0,2) → place 1 = some (2,32) → Instr.fill place ([] ++ [Value.int .i64 0,Value.int .i64 0] ++ bv zID.1).toArray [(0,.agg (codS.A s)),(1,encI x)] = some (codH.cs ⟨s,x⟩).toArray:=by
  intro place p0 p1
  refine (fill_one place [] [.int .i64 0,.int .i64 0] (bv zID.1) [.int .i64 s.T,.int .i64 s.R] 0 (.agg (codS.A s)) _ (by rw [A_SS];rfl) (by simpa using p0) rfl).trans ?_
  have e1:=fill_one place [.int .i64 s.T,.int .i64 s.R] (bv zID.1) [] (bv x.1) 1 (encI x) [] (cellsI x) (by simpa [x.2] using p1) (by simp [x.2,zID])
  refine Eq.trans ?_ (e1.trans ?_)
  ·simp
  ·simp [Instr.fill,codH,csH]
 have hz:(zeroValue 78).run Tryz.prog w = .ok (.agg (codH.cs codH.z).toArray) w:=okH.zero w
 have hc:(Value.agg (codH.cs codH.z).toArray).cells = ([] ++ [Value.int .i64 0,Value.int .i64 0] ++ bv zID.1).toArray:=rfl
 have hsI:∀ w,(sizeOf 33).run Tryz.prog w = .ok 32 w:=fun w=>Tryz.sizeOf33 w
 simp only [Instr.build,Sem.run_bind,hz,Result.andThen_ok,run_underlying Tryz.underlying78,hc]
 simp only [List.mapM_toArray,List.mapM_cons,List.mapM_nil,Sem.run_bind,hsI,Tryz.sizeOf24,Result.andThen_ok,Sem.run_pure,Sem.run_map,map_pure,bind_pure_comp]
 rw [h1 _ rfl rfl]
 simp [Cod.A_eq]
theorem ex_bldHd_at {ρ:Operand → Value} {o:Oper} {x y:Operand} {w:World} {s:St} {i:ID} (ho:o.op = .build 78 #[(0,x),(1,y)]) (hx:ρ x = .agg (codS.A s)) (hy:ρ y = encI i) :
  (execOp ρ o).run Tryz.prog w = .ok (.value (.agg (codH.A ⟨s,i⟩))) w:=by
 refine ex_buildG 78 ρ o #[(0,x),(1,y)] w w _ ho ?_
 have:=bldHd2 w s i
 simpa [hx,hy] using this
/-! rows that grow -/
theorem growD_snoc:∀ (l:List (List UInt8)) (d:Dft) (a:RwP) (nm:List UInt8),growD d a (l ++ [nm]) = (⟨putR (growD d a l).1.rows ⟨(growD d a l).1.next,(growD d a l).2.Node,(growD d a l).1.next,nm,[]⟩,tickD (growD d a l).1.next 1⟩,⟨(growD d a l).1.next,(growD d a l).2.Node,(growD d a l).1.next,nm,[]⟩)
 | [],d,a,nm=>rfl
 | x :: l,d,a,nm=>growD_snoc l _ _ nm
structure Grw (D:Dft) (a:RwP) (X:Dft × RwP) (k:Nat):Prop where
 tree:TreeOk X.1.rows
 lt:∀ r ∈ X.1.rows,cmpS r.Node X.1.next < 0
 len:X.1.rows.length = D.rows.length + k
 next:X.1.next = tickD D.next k
 mem:(k = 0 ∧ X.2 = a) ∨ X.2 ∈ X.1.rows
theorem grw_all {D:Dft} {a:RwP} {l:List (List UInt8)} (h:TreeOk D.rows) (h7:roomD D (l.length + 1) = true) (hfr:∀ s ∈ l,nameOk s = true) (h6:D.rows.length + l.length ≤ 5000) (ha:a = zRwP ∨ a ∈ D.rows) (k:Nat) (hk:k ≤ l.length):Grw D a (growD D a (l.take k)) k:=by
 have hl:(l.take k).length = k:=by rw [List.length_take];omega
 obtain ⟨g1,g2,g3,g4,g5⟩:=grow_ok (l.take k) D a h (room_lt h7) (fun j hj=>⟨room_right h7 j (by omega),fun e=>by
   have h8:=room_right h7 (j + 1) (by omega)
   rw [← tick_tick,e] at h8
   exact absurd h8 (by decide)⟩) (fun s hs=>hfr s (List.take_subset _ _ hs)) (by omega) ha
 rw [hl] at g3 g4
 refine ⟨g1,g2,g3,g4,?_⟩
 rcases g5 with ⟨e,g5⟩ | g5
 ·exact .inl ⟨by rw [e] at hl;simpa using hl.symm,g5⟩
 ·exact .inr g5
structure PtC (w:World) (P R B:Nat) (A5:Option Addr):Prop where
 pr:P ≠ R
 pb:P ≠ B
 rb:R ≠ B
 wR:w.heap.size ≤ R
 off:Off A5 (fun g=>g ≠ P ∧ g ≠ R ∧ g < R)
structure PtK (W w:World) (P R B:Nat) (A5:Option Addr) (x:ID) (d0:DfW) (l:List (List UInt8)) (X:Dft × RwP) (wr:World) (d:DfW) (rs:List RwW) (r:RwW):Prop where
 dw:Dw W wr P X.1 d rs
 bx:codR.bxd wr R = some r
 ro:RwO wr r X.2
 dn:dN w d0 d
 off:∀ b,d.A.map (·.block) = some b → b ≠ R ∧ b ≠ B ∧ Off A5 (fun g=>g ≠ b)
 sl:Sl wr A5 (nmsV l)
 id:rdI wr B 0 = some x
 fr:Fr (dM P d0) w wr
section
variable {W w wr w':World} {P R B:Nat} {A5:Option Addr} {x:ID} {d0 d:DfW} {l:List (List UInt8)} {X:Dft × RwP} {rs:List RwW} {r:RwW}
theorem PtK.fr0 (h:PtK W w P R B A5 x d0 l X wr d rs r) (f:Fr noB wr w'):PtK W w P R B A5 x d0 l X w' d rs r :=
 ⟨h.dw.fr0 f,Cod.bxd_fr0 h.bx f,h.ro.fr f (NoHS.nob _),h.dn,h.off,h.sl.fr0 f,rdI_fr0 h.id f,h.fr.step0 f⟩
theorem PtK.take (h:PtK W w P R B A5 x d0 l X wr d rs r) (c:PtC w P R B A5) {n':St} (hd:Dw W w' P ⟨X.1.rows,tickD X.1.next 1⟩ { d with next:=n' } rs) (f:Fr (oneB P) wr w'):PtK W w P R B A5 x d0 l (⟨X.1.rows,tickD X.1.next 1⟩,X.2) w' { d with next:=n' } rs r :=
 ⟨hd,Cod.bxd_fr h.bx f (fun e=>c.pr e.symm),h.ro.fr f (NoHS.blk (Cod.bxd_blk h.dw.bx) (by decide) (by decide)),h.dn,h.off,h.sl.fr f (fun a e k=>(c.off a e).1 k),rdI_fr h.id (rdI_lt h.id) f (fun e=>c.pb e.symm),h.fr.trans (dM.one P d0 f) (fun _ _ h=>h)⟩
theorem PtK.set (h:PtK W w P R B A5 x d0 l X wr d rs r) (c:PtC w P R B A5) {r':RwW} {x':RwP} (f:Fr (oneB R) wr w') (hb:codR.bxd w' R = some r') (ho:RwO w' r' x'):PtK W w P R B A5 x d0 l (X.1,x') w' d rs r' :=
 ⟨h.dw.frM f (fun e=>c.pr e) (fun b hb=>(h.off b hb).1) (bx_hs h.bx).h,hb,ho,h.dn,h.off,h.sl.fr f (fun a e k=>(c.off a e).2.1 k),rdI_fr h.id (rdI_lt h.id) f (fun e=>c.rb e.symm),h.fr.step1 f c.wR⟩
theorem PtK.put (h:PtK W w P R B A5 x d0 l X wr d rs r) (c:PtC w P R B A5) {D':Dft} (k:DwTo W wr P d D' w'):∃ d' rs',PtK W w P R B A5 x d0 l (D',X.2) w' d' rs' r:=by
 obtain ⟨⟨d',rs',hd,hn⟩,f⟩:=k
 have hR:¬ dM P d R:=by
  rintro (e | e)
  ·exact c.pr e.symm
  ·exact (h.off R e).1 rfl
 have hB:¬ dM P d B:=by
  rintro (e | e)
  ·exact c.pb e.symm
  ·exact (h.off B e).2.1 rfl
 refine ⟨d',rs',hd,Cod.bxd_fr h.bx f hR,h.ro.fr f (dM.nohs h.dw.bx h.dw.own),dN.trans h.dn hn h.fr.size,fun b hb=>?_,h.sl.fr f (fun a e k=>?_),rdI_fr h.id (rdI_lt h.id) f hB,dM.trans h.fr h.dn f⟩
 ·rcases hn with hn | hn
  ·exact h.off b (by rw [← hn];exact hb)
  ·have h1:=hn b hb
   have h2:=Cod.bxd_lt h.bx
   have h3:=rdI_lt h.id
   exact ⟨by omega,by omega,fun a e=>by have:=(c.off a e).2.2;omega⟩
 ·rcases k with k | k
  ·exact (c.off a e).1 k
  ·exact (h.off _ k).2.2 a e rfl
end
def PtR (W w:World) (P R B:Nat) (A5:Option Addr) (x:ID) (d0:DfW) (D:Dft) (a:RwP) (l:List (List UInt8)) (gk:Nat) (iv:Value) (wr:World):Prop :=
 ∃ (k:Nat) (d:DfW) (rs:List RwW) (r:RwW),iv = .int .i64 (k:Int) ∧ gk = l.length - k ∧ k ≤ l.length ∧ PtK W w P R B A5 x d0 l (growD D a (l.take k)) wr d rs r
theorem Grw.T {D:Dft} {a:RwP} {X:Dft × RwP} {k n:Nat} (h:Grw D a X k) (h7:roomD D n = true) (hk:k < n) : -9223372036854775808 ≤ X.1.next.T ∧ X.1.next.T < 9223372036854775807:=by
 have:=room_right h7 k hk
 rw [← h.next] at this
 unfold rightS at this
 simp only [Bool.and_eq_true,decide_eq_true_eq] at this
 omega
theorem RwO.row {w:World} {r:RwW} {x:RwP} (h:RwO w r x) (s:St) (nm:List UInt8) (hs:wfS s = true) (hn:nm.length ≤ 140737488355328) (w':World):RwO w' ⟨s,r.Node,s,nm,none,0,0⟩ ⟨s,x.Node,s,nm,[]⟩ :=
 ⟨⟨by rw [h.inn.node];rfl,rfl,Sl.nil _ _,by simp,hn,hs,h.inn.wn⟩,World.ownsRow_nil _ _ _ _⟩
set_option maxRecDepth 100000 in
set_option maxHeartbeats 4000000 in
theorem wput_any {W w:World} {P:Nat} {D:Dft} {d:DfW} {rs:List RwW} (h:Dw W w P D d rs) (ht:TreeOk D.rows) (hw:wfS D.next = true) (F:Fr noB W w) (hT:HasT W) (hM:HasMW W) (p:List UInt8) (hp:p.length < 4294967281) (x:ID) :
  Calls Tryz.prog 25 #[.pointer (some ⟨P,0,none⟩),.string (str p),encI x] w (DoTo W w P d (putF D p x)):=by
 have f0:Fr noB w (w.alloc (ido x)):=(Fr.refl noB w).alloc _
 have x0:=rdI_new w x
 have NM:=Lib.hid (names_any (w.alloc (ido x)) ((hM.fr F).fr f0) p hp)
 have HD:=Lib.hid h
 have HT:=Lib.hid ht
 have HW:=Lib.hid hw
 have HTB:=Lib.hid hT
 have HF:=Lib.hid F
 have HLE:=Lib.hid (split_lenle p)
 have HP:=Lib.hid hp
 have HL5:=Lib.hid ht.len
 have hPw:=Cod.bxd_lt h.bx
 clear h ht hw hT hM hp F
 have HPF:=Lib.hid (show putF D p x = if namesOk p = false then (D,170)
  else if ((freshD D p).any fun s=>s.contains 126) = true then (D,170)
  else if x = zID then (D,1)
  else if fileD D.rows (splitD p) (walkD D.rows zRwP (splitD p)).2 = true then (D,170)
  else if freshD D p = [] ∧ (walkD D.rows zRwP (splitD p)).1.Heads = [] then (D,5)
  else if 5000 < D.rows.length + (freshD D p).length then (D,3)
  else if roomD D ((freshD D p).length + 1) = false then (D,1)
  else (⟨putR (growD D (walkD D.rows zRwP (splitD p)).1 (freshD D p)).1.rows { (growD D (walkD D.rows zRwP (splitD p)).1 (freshD D p)).2 with Heads:=[⟨(growD D (walkD D.rows zRwP (splitD p)).1 (freshD D p)).1.next,x⟩] },
   tickD (growD D (walkD D.rows zRwP (splitD p)).1 (freshD D p)).1.next 1⟩,0) from rfl)
 have HFL:=Lib.hid (show freshD D p = (splitD p).drop (walkD D.rows zRwP (splitD p)).2 from rfl)
 have HME:=Lib.hid (walkD_mem D.rows zRwP (splitD p))
 have HWL:=Lib.hid (walkD_le D.rows zRwP (splitD p))
 have HSN:=Lib.hid (List.length_pos_iff.2 (split_ne p))
 go_enter Tryz.func25,Tryz.ntmps25
 go_upto_region 1 with fail
 generalize w.alloc (ido x) = w0 at f0 x0 NM ⊢
 obtain ⟨B,eB⟩:∃ B,B = w.heap.size:=⟨_,rfl⟩
 rw [← eB] at x0 hPw ⊢
 have HPB:=Lib.hid (show P < B ∧ w.heap.size ≤ B ∧ ∀ b,d.A.map (·.block) = some b → b < B from ⟨hPw,by omega,fun b hb=>by have:=(own_lt HD.out.own b hb).2;omega⟩)
 have X0:=Lib.hid x0
 have F0:=Lib.hid f0
 clear eB hPw x0 f0
 go_upto_region 2 with (go_at_call 38;refine NM.out.mono ?_;rintro e w1 ⟨A1,c1,rfl,hc1,s1,f1⟩)
 have S1:=Lib.hid s1
 have HC1:=Lib.hid hc1.1
 have HA1:=Lib.hid (show Off A1 (fun g=>g ≠ P ∧ w0.heap.size ≤ g ∧ g < w1.heap.size) from fun a e=>by
  obtain ⟨g,off,e2,hg,_⟩:=s1.at0 (k:=0) (by rw [nmsV_len];exact HSN.out)
  have h1:=hc1.2 a e
  rw [e] at e2
  injection e2 with e2
  subst e2
  have h3:=rdI_lt X0.out
  have h4:=HPB.out.1
  simp only at h1 hg ⊢
  exact ⟨by omega,h1,hg⟩)
 have F1:=Lib.hid (F0.out.step0 f1)
 have X1:=Lib.hid (rdI_fr0 X0.out f1)
 clear hc1 s1 f1 NM
 cases hnk:namesOk p with
 | false =>
  have HN:=Lib.hid (show putF D p x = (D,170) by rw [HPF.out,hnk];rfl)
  clear hnk
  go_wp2_with fail
  go_ret
  exact ⟨by rw [HN.out];rfl,by rw [HN.out];exact DwTo.of0 HD.out F1.out⟩
 | true =>
  have HNK:=Lib.hid hnk
  have HP1:=Lib.hid (HPF.out.trans (if_neg (by rw [hnk];decide)))
  clear hnk HPF
  have WC:=Lib.hid (walk_call (HD.out.fr0 F1.out) (by have:=HL5.out;omega) (HTB.out.fr (HF.out.step0 F1.out)) A1 c1 _ (splitD p) rfl S1.out (by have:=HLE.out.1;have:=HP.out;omega))
  go_upto_region 5 with (go_at_call 39;refine WC.out.mono ?_;rintro e w2 ⟨r,rfl,hr,f2⟩)
  have f3:=f2.step0 ((Fr.refl noB w2).alloc (codR.o r))
  have hr2:=hr.fr ((Fr.refl noB w2).alloc (codR.o r)) (NoHS.nob _)
  have b2:=Cod.bxd_new (C:=codR) w2 r
  have F2:=Lib.hid (F1.out.step0 f3)
  have S2:=Lib.hid (S1.out.fr0 f3)
  have X2:=Lib.hid (rdI_fr0 X1.out f3)
  have hsz:B < w2.heap.size:=rdI_lt (rdI_fr0 X1.out f2)
  obtain ⟨R,eR⟩:∃ R,R = w2.heap.size:=⟨_,rfl⟩
  rw [← eR] at b2 ⊢
  have HBR:=Lib.hid (show B < R by omega)
  have HAR:=Lib.hid (show Off A1 (fun g=>(g ≠ P ∧ g ≠ R ∧ g < R) ∧ w0.heap.size ≤ g) from fun a e=>by have h1:=HA1.out a e;have h2:=f2.size;exact ⟨⟨h1.1,by omega,by omega⟩,h1.2.1⟩)
  generalize w2.alloc (codR.o r) = w3 at hr2 b2 F2 S2 X2 ⊢
  have HR2:=Lib.hid hr2
  have B2:=Lib.hid b2
  clear WC hr f2 f3 hsz eR hr2 b2 S1 X1
  generalize walkD D.rows zRwP (splitD p) = o at HP1 HME HWL HFL HR2 ⊢
  generalize freshD D p = fl at HP1 HFL
  have i0:(0:Int) ≤ (o.2:Int):=by omega
  have i1:(o.2:Int) ≤ ((splitD p).length:Int):=by have:=HWL.out;omega
  go_upto_region 6 with fail
  have S3:=Lib.hid (show Sl w3 (cutA A1 c1 o.2 1) (nmsV fl) by rw [HFL.out];exact nms_cut S2.out HWL.out HC1.out)
  have HN5:=Lib.hid (show fl.length = (splitD p).length - o.2 by rw [HFL.out,List.length_drop])
  have hn5:(splitD p).length - o.2 = fl.length:=HN5.out.symm
  rw [hn5]
  have HFB:=Lib.hid (show fl.length ≤ 4294967281 by have:=HLE.out.1;have:=HP.out;omega)
  have HFN:=Lib.hid (show ∀ s ∈ fl,nameOk s = true from fun s hs=>names_name HNK.out s (List.drop_subset _ _ (by rw [← HFL.out];exact hs)))
  clear hn5 HN5
  have HA5:=Lib.hid (Off.cut (k:=o.2) (c:=c1) (size:=1) HAR.out)
  generalize cutA A1 c1 o.2 1 = A5 at S3 HA5 ⊢
  generalize c1 - o.2 = c5
  have CP:=contPut_any w3 A5 c5 _ fl rfl S3.out (by have:=HFB.out;omega) (fun s=>s.contains 126) (fun w' f s hs=>Put1_any w' s)
  generalize hanc:(fl.any fun s=>s.contains 126) = anc at CP HP1
  have CP:=Lib.hid CP
  clear hanc
  cases anc with
  | true =>
   have HN:=Lib.hid (HP1.out.trans (if_pos rfl))
   go_wp2_with (go_at_call 51;refine CP.out.mono ?_;rintro e w4 ⟨rfl,f4⟩)
   go_ret
   exact ⟨by rw [HN.out];rfl,by rw [HN.out];exact DwTo.of0 HD.out (F2.out.step0 f4)⟩
  | false =>
   have HP2:=Lib.hid (HP1.out.trans (if_neg (by decide)))
   clear HP1
   go_upto_region 8 with (go_at_call 51;refine CP.out.mono ?_;rintro e w4 ⟨rfl,f4⟩)
   have F4:=Lib.hid (F2.out.step0 f4)
   have S4:=Lib.hid (S2.out.fr0 f4)
   have SF4:=Lib.hid (S3.out.fr0 f4)
   have x4:=rdI_fr0 X2.out f4
   have HR4:=Lib.hid (HR2.out.fr f4 (NoHS.nob _))
   have B4:=Lib.hid (Cod.bxd_fr0 B2.out f4)
   have X4:=Lib.hid x4
   clear f4 CP X2 S2 S3 HR2 B2
   by_cases hx:x = zID
   ·have hd:decide (x = zID) = true:=decide_eq_true hx
    have HN:=Lib.hid (HP2.out.trans (if_pos hx))
    clear hx
    go_wp2_with fail
    go_ret
    exact ⟨by rw [HN.out];rfl,by rw [HN.out];exact DwTo.of0 HD.out F4.out⟩
   ·have hd:decide (x = zID) = false:=decide_eq_false hx
    have HP3:=Lib.hid (HP2.out.trans (if_neg hx))
    clear hx HP2
    have FA:=fileAhead_any (HD.out.fr0 F4.out) (by have:=HL5.out;omega) (HTB.out.fr (HF.out.step0 F4.out)) A1 c1 _ (splitD p) rfl S4.out HC1.out (by have:=HLE.out.1;have:=HP.out;omega) (by have:=HSN.out;omega) o.2 HWL.out
    generalize fileD D.rows (splitD p) o.2 = fd at FA HP3
    have FA:=Lib.hid FA
    cases fd with
    | true =>
     have HN:=Lib.hid (HP3.out.trans (if_pos rfl))
     go_wp2_with (go_at_call 54;refine FA.out.mono ?_;rintro e w5 ⟨rfl,f5⟩)
     go_ret
     exact ⟨by rw [HN.out];rfl,by rw [HN.out];exact DwTo.of0 HD.out (F4.out.step0 f5)⟩
    | false =>
     have HP4:=Lib.hid (HP3.out.trans (if_neg (by decide)))
     clear HP3
     go_upto_region 12 with (go_at_call 54;refine FA.out.mono ?_;rintro e w5 ⟨rfl,f5⟩)
     have F5:=Lib.hid (F4.out.step0 f5)
     have SF5:=Lib.hid (SF4.out.fr0 f5)
     have X5:=Lib.hid (rdI_fr0 X4.out f5)
     have HR5:=Lib.hid (HR4.out.fr f5 (NoHS.nob _))
     have B5:=Lib.hid (Cod.bxd_fr0 B4.out f5)
     clear f5 FA SF4 X4 HR4 B4 x4 hd S4
     have qh:=(rwAt (Cod.bxd_rd B5.out)).heads
     have HHL:=Lib.hid HR5.out.inn.len
     generalize hm5:fl.length = n5
     have HM5:=Lib.hid hm5
     clear hm5
     go_cut [50] from 42 to 50 (fun v wx=>∃ b:Bool,v = .bool b ∧ (b = true ↔ n5 = 0 ∧ r.n = 0) ∧ w5 = wx)
     case first =>
      by_cases h1:n5 = 0
      ·by_cases h2:r.n = 0
       ·have b1:((n5:Int) == 0) = true:=by simp [h1]
        have b2:((r.n:Int) == 0) = true:=by simp [h2]
        have H:=Lib.hid (And.intro h1 h2)
        clear h1 h2
        go_wp2_with fail
        go_meet
        case rel=>exact ⟨true,rfl,⟨fun _=>H.out,fun _=>rfl⟩,rfl⟩
       ·have b1:((n5:Int) == 0) = true:=by simp [h1]
        have b2:((r.n:Int) == 0) = false:=by simp [h2]
        have H:=Lib.hid h2
        clear h1 h2
        go_wp2_with fail
        go_meet
        case rel=>exact ⟨false,rfl,⟨fun h=>(by cases h),fun h=>absurd h.2 H.out⟩,rfl⟩
      ·have b1:((n5:Int) == 0) = false:=by simp [h1]
       have H:=Lib.hid h1
       clear h1
       go_wp2_with fail
       go_meet
       case rel=>exact ⟨false,rfl,⟨fun h=>(by cases h),fun h=>absurd h.1 H.out⟩,rfl⟩
     case rest =>
      obtain ⟨b,rfl,hb,rfl⟩:=hcut
      have hb2:b = true ↔ fl = [] ∧ o.1.Heads = []:=by
       rw [hb,← HM5.out,← HHL.out,List.length_eq_zero_iff,List.length_eq_zero_iff]
      have HB2:=Lib.hid hb2
      clear hb hb2
      cases b with
      | true =>
       have HN:=Lib.hid (HP4.out.trans (if_pos (HB2.out.1 rfl)))
       go_wp2_with fail
       go_ret
       exact ⟨by rw [HN.out];rfl,by rw [HN.out];exact DwTo.of0 HD.out F5.out⟩
      | false =>
       have HP5:=Lib.hid (HP4.out.trans (if_neg (fun h=>by have:=HB2.out.2 h;cases this)))
       clear HP4 HB2
       have q0:=(dfAt (HD.out.fr0 F5.out).bx).rows
       have hdn:D.rows.length = d.n:=by rw [← HD.out.rows.1,HD.out.n]
       have hwa:wrap64 ((d.n:Int) + (n5:Int)) = (d.n:Int) + (n5:Int):=IntWalk.wrap64_in _ (by have:=HL5.out;have:=HFB.out;have:=HM5.out;omega)
       by_cases hbig:5000 < d.n + n5
       ·have i6:(5000:Int) < (d.n:Int) + (n5:Int):=by omega
        have HN:=Lib.hid (HP5.out.trans (if_pos (by rw [hdn,HM5.out];exact hbig)))
        clear hbig hdn
        go_wp2_with fail
        go_ret
        exact ⟨by rw [HN.out];rfl,by rw [HN.out];exact DwTo.of0 HD.out F5.out⟩
       ·have i6:¬ (5000:Int) < (d.n:Int) + (n5:Int):=by omega
        have HP6:=Lib.hid (HP5.out.trans (if_neg (by rw [hdn,HM5.out];exact hbig)))
        have H5K:=Lib.hid (show D.rows.length + fl.length ≤ 5000 by rw [hdn,HM5.out];omega)
        clear hbig hdn HP5
        have hw1:wrap64 ((n5:Int) + 1) = (n5:Int) + 1:=IntWalk.wrap64_in _ (by have:=HFB.out;have:=HM5.out;omega)
        have RC:=room_call (HD.out.fr0 F5.out) (by have:=HL5.out;omega) HW.out (n5 + 1) (by have:=H5K.out;have:=HM5.out;omega)
        have RC:=Lib.hid (show Calls Tryz.prog 55 #[.pointer (some ⟨P,0,none⟩),.int .i64 ((n5:Int) + 1)] w5 (Gives w5 (.bool (roomD D (n5 + 1)))) from RC)
        cases hrm:roomD D (n5 + 1) with
        | false =>
         have HN:=Lib.hid (HP6.out.trans (if_pos (by rw [HM5.out];exact hrm)))
         have HRM:=Lib.hid hrm
         clear hrm
         go_wp2_with (go_at_call 55;refine RC.out.mono ?_;rintro e w6 ⟨rfl,f6⟩;rw [HRM.out])
         go_ret
         exact ⟨by rw [HN.out];rfl,by rw [HN.out];exact DwTo.of0 HD.out (F5.out.step0 f6)⟩
        | true =>
         have HN:=Lib.hid (HP6.out.trans (if_neg (by rw [HM5.out,hrm];decide)))
         have HRM:=Lib.hid hrm
         clear hrm HP6
         have ha:o.1 = zRwP ∨ o.1 ∈ D.rows:=by
          rcases HME.out with h | h
          ·exact .inl h.1
          ·exact .inr h
         have GR:=Lib.hid (grw_all (a:=o.1) (l:=fl) HT.out (by rw [HM5.out];exact HRM.out) HFN.out H5K.out ha)
         have HEM:=Lib.hid (show fl = [] → o.1 ∈ D.rows from fun he=>by
          rcases HME.out with h | h
          ·have h9:=HFL.out
           rw [he,h.2,List.drop_zero] at h9
           exact absurd h9.symm (split_ne p)
          ·exact h)
         clear ha
         go_upto_region 18 with (go_at_call 55;refine RC.out.mono ?_;rintro e w6 ⟨rfl,f6⟩;rw [HRM.out])
         have F6:=Lib.hid (F5.out.step0 f6)
         have SF6:=Lib.hid (SF5.out.fr0 f6)
         have X6:=Lib.hid (rdI_fr0 X5.out f6)
         have h0:PtR W w P R B A5 x d D o.1 fl n5 (.int .i64 ((0:Nat):Int)) w6:=⟨0,d,rs,r,rfl,by rw [HM5.out];rfl,Nat.zero_le _,HD.out.fr0 F6.out,Cod.bxd_fr0 B5.out f6,HR5.out.fr f6 (NoHS.nob _),dN.refl _ _,fun b hb=>⟨by have:=HPB.out.2.2 b hb;have:=HBR.out;omega,by have:=HPB.out.2.2 b hb;omega,fun a e=>by have h1:=(HA5.out a e).2;have h2:=HPB.out.2.2 b hb;have h3:=rdI_lt X0.out;omega⟩,SF6.out,X6.out,wk0 F6.out⟩
         have PC:=Lib.hid (show PtC w P R B A5 from ⟨by have:=HPB.out;have:=HBR.out;omega,by have:=HPB.out;omega,by have:=HBR.out;omega,by have:=HPB.out;have:=HBR.out;omega,HA5.out.mono fun b h=>h.1⟩)
         have H0:=Lib.hid h0
         clear h0 f6 RC qh q0 hwa hw1 i0 i1 i6 B5 HR5 X5 SF5
         go_wp2_with fail
         go_loopg [68] n5 (fun gk iv wr=>PtR W w P R B A5 x d D o.1 fl gk iv wr)
         case atStart=>exact H0.out
         case round =>
          clear H0
          obtain ⟨k,dk,rk,rr,rfl,hgk,hk,hK⟩:=hrel
          have GK:=Lib.hid (GR.out k hk)
          have HK:=Lib.hid hK
          have HGK:=Lib.hid hgk
          clear hgk hK
          by_cases hlt:k < fl.length
          ·have i1:(k:Int) < (n5:Int):=by have:=HM5.out;omega
           have i0:(0:Int) ≤ (k:Int):=by omega
           obtain ⟨g,off,eA,cs⟩:=nms_cell HK.out.sl hlt
           have HSN1:=Lib.hid (show growD D o.1 (fl.take (k + 1)) = (⟨putR (growD D o.1 (fl.take k)).1.rows ⟨(growD D o.1 (fl.take k)).1.next,(growD D o.1 (fl.take k)).2.Node,(growD D o.1 (fl.take k)).1.next,fl[k],[]⟩,tickD (growD D o.1 (fl.take k)).1.next 1⟩,⟨(growD D o.1 (fl.take k)).1.next,(growD D o.1 (fl.take k)).2.Node,(growD D o.1 (fl.take k)).1.next,fl[k],[]⟩) by rw [List.take_succ_eq_append_getElem hlt,growD_snoc])
           have HNL:=Lib.hid (show (fl[k]).length ≤ 140737488355328 by have:=HLE.out.2 _ (List.drop_subset _ _ (by rw [← HFL.out];exact List.getElem_mem hlt));have:=HP.out;omega)
           generalize growD D o.1 (fl.take k) = X at HSN1 HK GK
           generalize fl[k] = nm at HSN1 cs HNL
           have HLT:=Lib.hid hlt
           have TC:=Lib.hid (take_call HK.out.dw (GK.out.T HRM.out (by have:=HM5.out;omega)))
           have HWN:=Lib.hid (show wfS X.1.next = true from rightS_wf (by rw [GK.out.next];exact room_right HRM.out k (by have:=HM5.out;omega)))
           clear hlt hk
           subst eA
           go_upto_region 22 with (go_at_call 56;refine TC.out.mono ?_;rintro e w7 ⟨rfl,hd7,f7⟩)
           have K8:=(HK.out.take PC.out hd7 f7).fr0 ((Fr.refl noB w7).alloc (codS.o X.1.next))
           have q8:codS.rd (w7.alloc (codS.o X.1.next)) w7.heap.size 0 = some X.1.next:=Cod.rd_new' (C:=codS) w7 X.1.next
           clear cs TC hd7 f7
           generalize w7.alloc (codS.o X.1.next) = w8 at K8 q8 ⊢
           generalize w7.heap.size = S8 at q8 ⊢
           have b8:=K8.bx
           have qn:=(rwAt (Cod.bxd_rd b8)).node
           have st9:=okR.stR_box b8 ⟨X.1.next,rr.Node,X.1.next,nm,none,0,0⟩
           obtain ⟨p1,_,n1⟩:=Cod.put_fr b8 ⟨X.1.next,rr.Node,X.1.next,nm,none,0,0⟩
           have K9:=Lib.hid (K8.set PC.out p1 n1 (K8.ro.row X.1.next nm HWN.out HNL.out _))
           clear K8 b8 p1 n1
           go_upto_region 23 with fail
           clear st9 qn q8
           generalize codR.put _ R ⟨X.1.next,rr.Node,X.1.next,nm,none,0,0⟩ = w9 at K9 ⊢
           have r9:=Cod.bxd_rd K9.out.bx
           have PT:=Lib.hid (put_call K9.out.dw (Nat.le_trans HF.out.size K9.out.fr.size) (riseR_pw GK.out.tree.rise) (by have:=GK.out.tree.len;show X.1.rows.length ≤ _;omega) K9.out.ro (.inr fun y hy=>GK.out.lt y hy))
           have HWK:=Lib.hid (IntWalk.wrap64_in ((k:Int) + 1) (by have:=HLT.out;have:=HFB.out;omega))
           go_wp2_with (go_at_call 57;refine PT.out.mono ?_;rintro e w10 ⟨rfl,k10⟩)
           have K10:=Lib.hid (K9.out.put PC.out k10)
           clear k10
           go_roundg (fl.length - (k + 1))
           case measure=>have:=HGK.out;have:=HLT.out;omega
           case rel =>
            obtain ⟨d',rs',K⟩:=K10.out
            exact ⟨k + 1,d',rs',_,by first | (simp;done) | (rw [HWK.out];rfl) | exact congrArg (Value.int .i64) HWK.out,rfl,by have:=HLT.out;omega,by rw [HSN1.out];exact K⟩
          ·have hke:k = fl.length:=by omega
           have i1:¬ (k:Int) < (n5:Int):=by have:=HM5.out;omega
           rw [hke,List.take_length] at HK GK
           have HEM2:=Lib.hid (show (growD D o.1 fl).2 ∈ (growD D o.1 fl).1.rows from by
            rcases GK.out.mem with ⟨h1,h2⟩ | h
            ·have he:fl = []:=List.length_eq_zero_iff.1 h1
             rw [h2,he]
             exact HEM.out he
            ·exact h)
           generalize growD D o.1 fl = X at HN HK GK HEM2
           clear hke hk hlt
           have TC:=Lib.hid (fun w' (f:Fr noB wr w')=>take_call (HK.out.dw.fr0 f) (GK.out.T HRM.out (by have:=HM5.out;omega)))
           go_upto_region 25 with fail
           have FD:=Lib.hid (show Fr noB wr wr.drew from (Fr.refl noB wr).drew)
           have hF0:=rdI_fr0 HK.out.id FD.out
           refine wp_region_M 6 7 [⟨19342813113834066795298816,1,0⟩,⟨38685626227668133590597632,19342813113834066795298816,1⟩,⟨77371252455336267181195264,32,0⟩,⟨154742504910672534362390528,116056878683004400771792896,6⟩,⟨309485009821345068724781056,154742504910672534362390528,8⟩,⟨618970019642690137449562112,512,31⟩,⟨0,928455029464035206174343168,63⟩] [(true,0),(true,2),(false,1),(true,3),(false,4),(true,5)] (fun w'=>rdI w' B 0 = some x) (by kernel_rfl) rfl (by kernel_rfl) (by kernel_rfl) (by kernel_rfl) hF0 (fun hA hF=>?_)
           clear hF0
           have K0:=Lib.hid (HK.out.fr0 FD.out)
           have TC:=Lib.hid (TC.out _ FD.out)
           generalize wr.drew = V at K0 TC hF ⊢
           iterate 2
            refine wpAnyS_take (v:=?_) hA rfl (fun _ _ _ h=>h) (Or.inl ⟨by rfl,?_⟩) hF (fun hA=>?_)
            rotate_left
            ·intro wS hSw;(try dsimp only at hSw);obtain s1:=hSw;first | (apply Eq.trans;apply ex_ld_id;exact rfl;exact rfl;assumption;with_reducible rfl) | (apply Eq.trans;apply ex_ldS_at;exact rfl;exact rfl;assumption;with_reducible rfl) | (apply Eq.trans;apply ex_bldHd_at;exact rfl;exact rfl;exact rfl;with_reducible rfl) | (go_simp;try with_reducible rfl)
            try simp only [sA1,sA2,sA3,Act.put,sA4,sA5,sA6]
           refine wpAnyS_one hA rfl (fun K' hK=>?_)
           go_simp
           go_at_call 56
           refine TC.out.mono ?_
           rintro e w5 ⟨rfl,hd5,f5⟩
           have K1:=K0.out.take PC.out hd5 f5
           replace hF:=K1.id
           refine hK.out _ _ hF (fun hA=>?_)
           clear hK K'
           try simp only [sA1,sA2,sA3,Act.put,sA4,sA5,sA6]
           refine wpAnyS_take (v:=?_) hA rfl (fun _ _ _ h=>h) (Or.inl ⟨by rfl,?_⟩) hF (fun hA=>?_)
           rotate_left
           ·intro wS hSw;(try dsimp only at hSw);obtain s1:=hSw;first | (apply Eq.trans;apply ex_ld_id;exact rfl;exact rfl;assumption;with_reducible rfl) | (apply Eq.trans;apply ex_ldS_at;exact rfl;exact rfl;assumption;with_reducible rfl) | (apply Eq.trans;apply ex_bldHd_at;exact rfl;exact rfl;exact rfl;with_reducible rfl) | (go_simp;try with_reducible rfl)
           try simp only [sA1,sA2,sA3,Act.put,sA4,sA5,sA6]
           refine wpAnyS_one hA rfl (fun K' hK=>?_)
           refine wk_runV _ _ (ex_bsH_at rfl rfl) ?_
           have fa:Fr noB w5 (w5.alloc (codH.ro [⟨X.1.next,x⟩])):=(Fr.refl noB w5).alloc _
           have K2:=K1.fr0 fa
           replace hF:=K2.id
           refine hK.out _ _ hF (fun hA=>?_)
           clear hK K'
           try simp only [sA1,sA2,sA3,Act.put,sA4,sA5,sA6]
           refine wpAnyS_take (v:=?_) hA rfl (fun _ _ _ h=>h) (Or.inl ⟨by rfl,?_⟩) hF (fun hA=>?_)
           rotate_left
           ·intro wS hSw;(try dsimp only at hSw);obtain s1:=hSw;first | (apply Eq.trans;apply ex_ld_id;exact rfl;exact rfl;assumption;with_reducible rfl) | (apply Eq.trans;apply ex_ldS_at;exact rfl;exact rfl;assumption;with_reducible rfl) | (apply Eq.trans;apply ex_bldHd_at;exact rfl;exact rfl;exact rfl;with_reducible rfl) | (go_simp;try with_reducible rfl)
           try simp only [sA1,sA2,sA3,Act.put,sA4,sA5,sA6]
           refine wpAnyS_end hA rfl ?_
           simp only [List.drop_succ_cons,List.drop_zero]
           clear hF
           have hown:=Cod.own_new (C:=codH) w5 [⟨X.1.next,x⟩] (by unfold maxLen;simp)
           have hsl:=Cod.sl_new (C:=codH) w5 [⟨X.1.next,x⟩]
           obtain ⟨H,eH⟩:∃ H,H = w5.heap.size:=⟨_,rfl⟩
           rw [← eH] at hown hsl ⊢
           clear eH fa K1 hd5 f5
           generalize w5.alloc (codH.ro [⟨X.1.next,x⟩]) = w6 at hown hsl K2 ⊢
           have q7:=(rwAt (Cod.bxd_rd K2.bx)).heads
           have z7:=(Cod.bxd_blk K2.bx).frozen 7
           have n3:=Cod.bxd_set K2.bx 7 (.slice (some ⟨H,0,none⟩) 1 1) _ (seR_Heads _ _ _ _)
           have p3:=Cod.set_fr w6 R 7 (.slice (some ⟨H,0,none⟩) 1 1)
           have ro:=K2.ro
           have hro:RwO w6 { rr with A:=some ⟨H,0,none⟩,n:=1,c:=1 } { X.2 with Heads:=[⟨X.1.next,x⟩] } :=
            ⟨⟨by have e:=ro.inn.eq;rw [e];rfl,rfl,hsl,by simp,ro.inn.nm,ro.inn.wn,ro.inn.wp⟩,own_base hown (Nat.zero_le _)⟩
           have K3:=Lib.hid (K2.set PC.out p3 n3 (hro.fr p3 (bx_hs K2.bx)))
           clear hown hsl ro hro n3 p3 K2
           go_upto_region 26 with fail
           clear q7 z7
           generalize w6.setCell ⟨R,7,none⟩ (.slice (some ⟨H,0,none⟩) 1 1) = w7 at K3 ⊢
           have r9:=Cod.bxd_rd K3.out.bx
           have PT:=Lib.hid (put_call K3.out.dw (Nat.le_trans HF.out.size K3.out.fr.size) (riseR_pw GK.out.tree.rise) (by have:=GK.out.tree.len;show X.1.rows.length ≤ _;omega) K3.out.ro (.inl ⟨X.2,HEM2.out,rfl⟩))
           go_wp2_with (go_at_call 57;refine PT.out.mono ?_;rintro e w10 ⟨rfl,k10⟩)
           obtain ⟨d',rs',K4⟩:=K3.out.put PC.out k10
           go_ret
           exact ⟨by rw [HN.out];rfl,by rw [HN.out];exact ⟨⟨d',rs',K4.dw,K4.dn⟩,K4.fr⟩⟩
end Go.Proofs.YthehiobacjjakaaGreatDoor
