/- A law's box of objects; contracts of its put and get. -/
import Derived.Test.YtnkdnbjmhoegkaaGreatR9WKp
import Derived.Test.YtnkdnbjmhoegkaaGreatRBoxKp
set_option linter.unusedVariables false
set_option linter.unusedSimpArgs false
namespace Go.Proofs.YtnkdnbjmhoegkaaGreat
open Go.RowKit Go.Maps Go.Sort
structure BxR (w:World) (Z:Nat → Prop) (A:Option Addr) (rs:List SlW) (xs:List (List UInt8)):Prop where
 sl:Sl w A (codB.row rs)
 off:rs ≠ [] → Off A (fun b=>¬ Z b)
 bs:BsIn w rs xs
 boff:∀ i (h:i < rs.length) (h':i < xs.length),xs[i] ≠ [] → Off rs[i].A (fun b=>¬ Z b)
theorem ByIn.off {w w':World} {M:Nat → Prop} {r:SlW} {x:List UInt8} (h:ByIn w r x) (hx:x ≠ [] → Off r.A (fun b=>¬ M b)) (f:Fr M w w'):ByIn w' r x:=by
 refine ⟨h.len,h.cap,?_,h.bd⟩
 by_cases h0:x = []
 ·rw [h0];exact Sl.nil _ _
 ·exact h.sl.fr f (hx h0)
theorem BxR.fr {w w':World} {Z M:Nat → Prop} {A:Option Addr} {rs:List SlW} {xs:List (List UInt8)} (h:BxR w Z A rs xs) (f:Fr M w w') (hM:∀ b,M b → Z b):BxR w' Z A rs xs:=by
 refine ⟨?_,h.off,⟨h.bs.len,fun i h1 h2=>(h.bs.at_ i h1 h2).off (fun hne=>(h.boff i h1 h2 hne).mono fun b hb hm=>hb (hM b hm)) f⟩,h.boff⟩
 by_cases h0:rs = []
 ·rw [h0];exact Sl.nil _ _
 ·exact h.sl.fr f ((h.off h0).mono fun b hb hm=>hb (hM b hm))
theorem BxR.fr0 {w w':World} {Z:Nat → Prop} {A:Option Addr} {rs:List SlW} {xs:List (List UInt8)} (h:BxR w Z A rs xs) (f:Fr noB w w'):BxR w' Z A rs xs:=h.fr f (fun b hb=>absurd hb (by simp [noB]))
theorem BxR.sub {w:World} {Z Z':Nat → Prop} {A:Option Addr} {rs:List SlW} {xs:List (List UInt8)} (h:BxR w Z A rs xs) (hz:∀ b,Z' b → Z b):BxR w Z' A rs xs :=
 ⟨h.sl,fun hne=>(h.off hne).mono fun b hb k=>hb (hz b k),h.bs,fun i h1 h2 hne=>(h.boff i h1 h2 hne).mono fun b hb k=>hb (hz b k)⟩
theorem Sl.offNew {w:World} {A:Option Addr} {l:List Value} (h:Sl w A l) (hl:l ≠ []):Off A (fun b=>b < w.heap.size):=fun a ha=>by
 obtain ⟨g,off,e,hg,_⟩:=h hl
 rw [e] at ha;injection ha with ha;rw [← ha];exact hg
theorem BxR.more {w:World} {Z:Nat → Prop} {A:Option Addr} {rs:List SlW} {xs:List (List UInt8)} (h:BxR w Z A rs xs):BxR w (fun b=>Z b ∨ w.heap.size ≤ b) A rs xs :=
 ⟨h.sl,fun hne a ha k=>k.elim (h.off hne a ha) (fun k=>by have:=h.sl.offNew (Cod.row_ne hne) a ha;omega),h.bs,fun i h1 h2 hne a ha k=>k.elim (h.boff i h1 h2 hne a ha) (fun k=>by have:=(h.bs.at_ i h1 h2).sl.offNew (bv_ne hne) a ha;omega)⟩
def BoxIn (w:World) (X:Nat) (Z:Nat → Prop) (xs:List (List UInt8)):Prop:=∃ A c rs,Blk w X 32 [.slice A rs.length c] ∧ BxR w (fun b=>b = X ∨ Z b) A rs xs
theorem BoxIn.fr {w w':World} {X:Nat} {Z M:Nat → Prop} {xs:List (List UInt8)} (h:BoxIn w X Z xs) (f:Fr M w w') (hX:¬ M X) (hM:∀ b,M b → Z b):BoxIn w' X Z xs:=by
 obtain ⟨A,c,rs,h1,h2⟩:=h
 exact ⟨A,c,rs,h1.fr f hX,h2.fr f fun b hb=>.inr (hM b hb)⟩
theorem BoxIn.fr0 {w w':World} {X:Nat} {Z:Nat → Prop} {xs:List (List UInt8)} (h:BoxIn w X Z xs) (f:Fr noB w w'):BoxIn w' X Z xs:=h.fr f (by simp [noB]) (fun b hb=>absurd hb (by simp [noB]))
theorem BoxIn.sub {w:World} {X:Nat} {Z Z':Nat → Prop} {xs:List (List UInt8)} (h:BoxIn w X Z xs) (hz:∀ b,Z' b → Z b):BoxIn w X Z' xs:=by
 obtain ⟨A,c,rs,h1,h2⟩:=h
 exact ⟨A,c,rs,h1,h2.sub fun b hb=>hb.imp id (hz b)⟩
theorem BoxIn.more {w:World} {X:Nat} {Z:Nat → Prop} {xs:List (List UInt8)} (h:BoxIn w X Z xs):BoxIn w X (fun b=>Z b ∨ w.heap.size ≤ b) xs:=by
 obtain ⟨A,c,rs,h1,h2⟩:=h
 exact ⟨A,c,rs,h1,h2.more.sub fun b hb=>or_assoc.2 hb⟩
theorem BoxIn.lt {w:World} {X:Nat} {Z:Nat → Prop} {xs:List (List UInt8)} (h:BoxIn w X Z xs):X < w.heap.size:=by
 obtain ⟨A,c,rs,h1,_⟩:=h
 exact h1.lt
theorem one_sl (v:Value) (hv:∀ n,v ≠ .int .u8 n):∀ (j:Nat) (n:Int),[v][j]? ≠ some (.int .u8 n):=fun j n h=>by
 cases j with
 | zero=>simp at h;exact hv n h
 | succ j=>simp at h
theorem BoxIn.new (w:World) (Z:Nat → Prop):BoxIn (w.alloc (.cells #[.slice none 0 0] 32)) w.heap.size Z []:=⟨none,0,[],Blk.new w _ _,Sl.nil _ _,fun h=>absurd rfl h,BsIn.nil _,fun i h=>absurd h (by simp)⟩
theorem PuTo.all {w w':World} {A:Option Addr} {n c:Nat} {rs:List SlW} {xs:List (List UInt8)} {r:SlW} {b:List UInt8} {e:Ending} (h:PuTo w A n c rs xs r b e w') {Z:Nat → Prop} (hZ:∀ g,Z g → g < w.heap.size) (hn:rs.length = n) (hs:BxR w Z A rs xs) (hr:ByIn w r b) (hro:b ≠ [] → Off r.A (fun b=>¬ Z b)) :
  Fr noB w w' ∧ ∃ A' c' l,e = .returned (.slice A' l.length c') ∧ BxR w' Z A' l (putX xs b):=by
 obtain ⟨f,⟨h1,h2⟩ | ⟨h1,A',c',l,h2,rfl,h4⟩⟩:=h
 ·exact ⟨f,A,c,rs,by rw [hn];exact h2,by rw [putX_in h1];exact hs.fr0 f⟩
 ·refine ⟨f,A',c',_,h2,Sl.own h4,fun _=>(Off.own h4).mono fun b hb k=>?_,?_,?_⟩
  ·have:=hZ b k;omega
  ·rw [putX_out h1]
   exact (hs.bs.fr0 f).snoc (hr.fr0 f)
  ·rw [putX_out h1]
   intro i h1 h2 hne
   rw [List.length_append,List.length_singleton] at h1 h2
   by_cases hi:i < rs.length
   ·have hi':i < xs.length:=by rw [← hs.bs.len];exact hi
    rw [List.getElem_append_left hi'] at hne
    rw [List.getElem_append_left hi]
    exact hs.boff i hi hi' hne
   ·have hi2:i = rs.length:=by omega
    subst hi2
    rw [List.getElem_append_right (by rw [hs.bs.len];exact Nat.le_refl _)] at hne
    rw [List.getElem_append_right (Nat.le_refl _)]
    simp only [List.getElem_singleton,Nat.sub_self] at hne ⊢
    exact hro hne
theorem ret_id_tmp {fn:Func} {p u:Tmp} (h:fn.results = #[.cell p 34,.tmp u]) (tmps:Array Value) (w:World) (R:Nat) (x:ID) (hp:tmps.getD p undef = .pointer (some ⟨R,0,none⟩)) (hb:bxI w R = some x):(results fn tmps).run Tryz.prog w = .ok (.tuple #[encI x,tmps.getD u undef]) w:=by
 have hh:=bxI_at hb
 simp only [ido,idA_eq] at hh
 have hl:=run_loadVar_mid (P:=Tryz.prog) w R 0 34 (bv x.1) _ (fun j v hv=>by rw [Nat.zero_add,cell_of_row _ _ j (bv x.1).toArray 34 (0,0) hh];simpa using hv) Tryz.underlying34 rfl (by rw [bv_length,x.2];exact infoID)
 rw [results_cell_tmp h,hp]
 simp only [asAddr,Sem.run_pure,Result.andThen_ok,hl,encI,idA_eq]
theorem ex_bsY0_at {ρ:Operand → Value} {o:Oper} {w:World} (ho:o.op = .buildSlice 64 0 #[]) :
  (execOp ρ o).run Tryz.prog w = .ok (.value (.slice (some ⟨w.heap.size,0,none⟩) 0 0)) (w.alloc (.cells #[] 5)):=by
 obtain ⟨d,op,t,p,f,g⟩:=o
 simp only at ho
 subst ho
 unfold execOp
 simp only [List.map_toArray,List.map_nil]
 go_simp
def PxTo (w:World) (X:Nat) (Z:Nat → Prop) (xs:List (List UInt8)) (b:List UInt8) (e:Ending) (w':World):Prop:=e = .returned (.tuple #[encI (nameH b),.int .i64 0]) ∧ BoxIn w' X Z (putX xs b) ∧ Fr (oneB X) w w'
set_option maxRecDepth 100000 in
set_option maxHeartbeats 1000000 in
theorem bxput_any (w:World) (X:Nat) (Z:Nat → Prop) (hZ:∀ g,Z g → g < w.heap.size) (xs:List (List UInt8)) (hX:BoxIn w X Z xs) (hlen:xs.length ≤ 1000000000) (A:Option Addr) (n c:Nat) (b:List UInt8) (hb:ByIn w ⟨A,n,c⟩ b):Calls Tryz.prog 8 #[.pointer (some ⟨X,0,none⟩),.slice A n c] w (PxTo w X Z xs b):=by
 have hXl:=hX.lt
 obtain ⟨A0,c0,rs,hk,hR0⟩:=hX
 have HLN:=Lib.hid (show rs.length ≤ 1000000000000 by rw [hR0.bs.len];omega)
 have f0:Fr noB w (w.alloc (ido zID)):=(Fr.refl noB w).alloc _
 have b0:bxI (w.alloc (ido zID)) w.heap.size = some zID:=bxI_new w zID
 have HP0:=Lib.hid (And.intro f0 b0)
 have HX0:=Lib.hid (And.intro (hk.fr f0 (by simp [noB])) ((hR0.more.fr0 f0).sub (Z':=fun g=>(g = X ∨ Z g) ∨ g = w.heap.size) fun g hg=>hg.elim .inl (fun e=>.inr (by omega))))
 have HZ:=Lib.hid hZ
 have HBY:=Lib.hid (hb.fr0 f0)
 have HBO:=Lib.hid (show b ≠ [] → Off A (fun g=>g ≠ w.heap.size) from fun hne=>(hb.sl.offNew (bv_ne hne)).mono fun g hg=>by omega)
 have HXR:=Lib.hid (show X < w.heap.size from hXl)
 have HS1:=Lib.hid (show w.heap.size < (w.alloc (ido zID)).heap.size by simp)
 clear hk hR0 hb f0 b0 hlen hXl hZ
 go_enter Tryz.func8,Tryz.ntmps8
 go_upto_region 1 with fail
 generalize w.alloc (ido zID) = w1 at HP0 HX0 HBY HS1 ⊢
 generalize hR:w.heap.size = R at HP0 HXR HX0 HBO HS1 HZ ⊢
 have HR:=Lib.hid hR
 clear hR
 have fd:Fr noB w1 w1.drew:=(Fr.refl noB w1).drew
 have hF0:w1.drew.cell? ⟨X,0,none⟩ = some (.slice A0 rs.length c0):=by have:=HX0.out.1;rw [(this.fr fd (by simp [noB])).cell];rfl
 have HF:=Lib.hid fd
 have keep:∀ w' w'':World,Fr noB w' w'' → w'.cell? ⟨X,0,none⟩ = some (.slice A0 rs.length c0) → w''.cell? ⟨X,0,none⟩ = some (.slice A0 rs.length c0):=fun w' w'' f h=>cell_fr0 h f
 clear fd
 refine wp_region_M 11 12 [⟨64,1,0⟩,⟨128,1,0⟩,⟨256,128,2⟩,⟨512,256,4⟩,⟨1024,512,8⟩,⟨2048,0,0⟩,⟨4096,2,0⟩,⟨8192,6144,96⟩,⟨16384,9216,144⟩,⟨32768,64,511⟩,⟨65536,32768,1023⟩,⟨0,81920,1535⟩] [(true,0),(true,1),(true,2),(true,3),(true,4),(true,6),(false,5),(false,7),(false,8),(true,9),(true,10)] (fun w'=>w'.cell? ⟨X,0,none⟩ = some (.slice A0 rs.length c0)) (by kernel_rfl) rfl (by kernel_rfl) (by kernel_rfl) (by kernel_rfl) hF0 (fun hA hF=>?_)
 clear hF0
 generalize w1.drew = wd at hF HF ⊢
 iterate 6
  refine wpAnyS_take (v:=?_) hA rfl (fun _ _ _ h=>h) (Or.inl ⟨by rfl,?_⟩) hF (fun hA=>?_)
  rotate_left
  ·intro wS hSw;(try dsimp only at hSw);obtain s1:=hSw;(go_simp;try with_reducible rfl)
  try simp only [sA1,sA2,sA3,Act.put,sA4,sA5,sA6]
 refine wpAnyS_one hA rfl (fun K' hK=>?_)
 refine step_runI rfl _ _ (ex_bsY0_at rfl) ?_
 have fn:Fr noB wd (wd.alloc (.cells #[] 5)):=(Fr.refl noB wd).alloc _
 have own0:OwnC codY wd (wd.alloc (.cells #[] 5)) (some ⟨wd.heap.size,0,none⟩) 0 []:=World.ownsRow_lit (base:=wd.heap.size) (e:=5) (size:=1) wd #[] 0 (Nat.le_refl _) (by unfold maxLen;omega) (by simp)
 have hsb:Sl (wd.alloc (.cells #[] 5)) A (codY.row b):=by rw [row_Y];exact (HBY.out.sl.fr0 HF.out).fr0 fn
 have hsz:=fn.size
 have HFN:=Lib.hid fn
 replace hF:=keep _ _ fn hF
 refine hK.out _ _ hF (fun hA=>?_)
 clear hK K'
 as_aux_lemma =>
 refine wpAnyS_one hA rfl (fun K' hK=>?_)
 refine step_appC' etY wd _ rfl _ _ rfl (some ⟨wd.heap.size,0,none⟩) 0 0 [] rfl rfl own0 A n c b rfl hsb HBY.out.len (by have:=HBY.out.bd;simp;omega) hsz ?_
 intro A8 c8 w8 hc8 hmx8 ho8 hg8 hA8
 rw [List.nil_append] at ho8 hc8 ⊢
 have F8:=Fr.own' HFN.out own0 hg8
 have HF8:=Lib.hid (HF.out.step0 F8)
 have HO8:=Lib.hid (show Off A8 (fun g=>w1.heap.size ≤ g) from (Off.own ho8).mono fun g hg=>Nat.le_trans HF.out.size hg.1)
 have HB8:=Lib.hid (show ByIn w8 ⟨A8,b.length,c8⟩ b from ⟨rfl,hc8,by have:=Sl.own ho8;rw [row_Y] at this;exact this,HBY.out.bd⟩)
 have hbc:w8.cell? ⟨X,0,none⟩ = some (.slice A0 rs.length c0):=cell_fr0 (by have:=HX0.out.1;rw [this.cell];rfl) HF8.out
 clear hsb own0 fn hsz hc8 hmx8 ho8 hg8 hA8 F8
 replace hF:=hbc
 refine hK.out _ _ hF (fun hA=>?_)
 clear hK K'
 as_aux_lemma =>
 clear hbc
 refine wpAnyS_one hA rfl (fun K' hK=>?_)
 go_simp
 go_at_call 20
 refine (r09put_any w8 A0 c0 rs.length rs xs rfl (HX0.out.2.sl.fr0 HF8.out) HLN.out (HX0.out.2.bs.fr0 HF8.out) A8 c8 b.length b HB8.out).mono ?_
 intro e w9 hpu
 obtain ⟨f9,A9,c9,l9,rfl,hR9⟩:=hpu.all (Z:=fun g=>(g = X ∨ Z g) ∨ g = R) (fun g hg=>by
  have h1:=HXR.out;have h2:=HF8.out.size;have h3:=HS1.out
  rcases hg with (rfl | hg) | rfl
  ·omega
  ·have:=HZ.out g hg;omega
  ·omega) rfl (HX0.out.2.fr0 HF8.out) HB8.out (fun _=>HO8.out.mono fun g hg k=>by
  have h1:=HXR.out;have h3:=HS1.out
  rcases k with (rfl | k) | rfl
  ·omega
  ·have:=HZ.out g k;omega
  ·omega)
 have HF9:=Lib.hid (HF8.out.step0 f9)
 have HN9:=Lib.hid hR9
 clear hpu hR9
 replace hF:=keep _ _ f9 hF
 refine hK.out _ _ hF (fun hA=>?_)
 clear hK K'
 as_aux_lemma =>
 clear f9
 iterate 2
  refine wpAnyS_take (v:=?_) hA rfl (fun _ _ _ h=>h) (Or.inl ⟨by rfl,?_⟩) hF (fun hA=>?_)
  rotate_left
  ·intro wS hSw;(try dsimp only at hSw);obtain s1:=hSw;(go_simp;try with_reducible rfl)
  try simp only [sA1,sA2,sA3,Act.put,sA4,sA5,sA6]
 refine wpAnyS_end hA rfl ?_
 simp only [List.drop_succ_cons,List.drop_zero]
 clear hF keep
 have hk9:Blk w9 X 32 [.slice A0 rs.length c0]:=HX0.out.1.fr HF9.out (by simp [noB])
 have k1:w9.cell? ⟨X,0,none⟩ = some (.slice A0 rs.length c0):=by rw [hk9.cell];rfl
 have k2:=hk9.frozen 0
 have hset:Blk (w9.setCell ⟨X,0,none⟩ (.slice A9 l9.length c9)) X 32 [.slice A9 l9.length c9]:=hk9.set 0 _
 have fX:Fr (oneB X) w9 (w9.setCell ⟨X,0,none⟩ (.slice A9 l9.length c9)):=Fr.setCell (M:=oneB X) (Fr.refl _ w9) (p:=⟨X,0,none⟩) (fun _=>rfl) _
 have HBX:=Lib.hid (And.intro hset (HN9.out.fr fX (fun g hg=>.inl (.inl hg))))
 have HFX:=Lib.hid fX
 have HBY9:=Lib.hid (show ByIn (w9.setCell ⟨X,0,none⟩ (.slice A9 l9.length c9)) ⟨A,n,c⟩ b from ⟨HBY.out.len,HBY.out.cap,(HBY.out.sl.fr0 HF9.out).frB hk9 (one_sl _ (by intro n h;cases h)) fX,HBY.out.bd⟩)
 have HR9:=Lib.hid (bxI_fr (bxI_fr HP0.out.2 HF9.out (by simp [noB])) fX (by have:=HXR.out;show ¬ R = X;omega))
 clear hk9 hset fX
 go_upto_region 2 with fail
 generalize w9.setCell ⟨X,0,none⟩ (.slice A9 l9.length c9) = ws at HBX HFX HBY9 HR9 ⊢
 clear k1 k2
 go_wp2_with (go_at_call 21;refine (r01name_any ws A c n b HBY9.out.len HBY9.out.sl HBY9.out.bd).mono ?_;rintro e w2 ⟨rfl,f2⟩;have HF2:=Lib.hid f2;have hbx:=bxI_fr HR9.out f2 (by simp [noB]);clear f2;obtain ⟨res,hres⟩:∃ r,r = nameH b:=⟨_,rfl⟩;rw [← hres];have HRES:=Lib.hid hres;clear hres;obtain ⟨g1,g2,g3⟩:=putB_fr hbx res;have HG1:=Lib.hid g1;have HG3:=Lib.hid g3;clear g1 g2 g3)
 refine bodyPost_ret (ret_id_tmp rfl _ _ R res (by rfl) HG3.out) rfl ?_
 refine ⟨by rw [← HRES.out];rfl,⟨A9,c9,l9,?_,?_⟩,?_⟩
 ·exact (HBX.out.1.fr HF2.out (by simp [noB])).fr HG1.out (by have:=HXR.out;show ¬ X = R;omega)
 ·exact ((HBX.out.2.fr0 HF2.out).fr HG1.out (fun g hg=>.inr hg)).sub fun g hg=>.inl hg
 ·have h1:=HP0.out.1.step0 HF9.out
  have h2:Fr (oneB X) w _:=(h1.any (M:=oneB X)).trans HFX.out (fun b _ h=>h)
  exact (h2.step0 HF2.out).step1 HG1.out (by have:=HR.out;omega)
def GtTo (w:World) (xs:List (List UInt8)) (id:ID) (e:Ending) (w':World):Prop :=
 Fr noB w w' ∧ match findO nameH xs id with
  | none=>e = .returned (.tuple #[.slice none 0 0,.int .i64 4])
  | some b=>∃ A n c,e = .returned (.tuple #[.slice A n c,.int .i64 0]) ∧ ByIn w' ⟨A,n,c⟩ b
set_option maxRecDepth 100000 in
set_option maxHeartbeats 1000000 in
theorem bxget_any (w:World) (X:Nat) (Z:Nat → Prop) (xs:List (List UInt8)) (hX:BoxIn w X Z xs) (hlen:xs.length ≤ 1000000000) (id:ID):Calls Tryz.prog 10 #[.pointer (some ⟨X,0,none⟩),encI id] w (GtTo w xs id):=by
 have hXl:=hX.lt
 obtain ⟨A0,c0,rs,hk,hR0⟩:=hX
 have HLN:=Lib.hid (show rs.length ≤ 140737488355328 by rw [hR0.bs.len];omega)
 have f0:Fr noB w (w.alloc (ido id)):=(Fr.refl noB w).alloc _
 have b0:=bxI_rd (bxI_new w id)
 have HX0:=Lib.hid (hR0.fr0 f0)
 have k0:(w.alloc (ido id)).cell? ⟨X,0,none⟩ = some (.slice A0 rs.length c0):=by rw [(hk.fr f0 (by simp [noB])).cell];rfl
 have hP:w.heap.size < (w.alloc (ido id)).heap.size:=by simp
 have hXl:X < (w.alloc (ido id)).heap.size:=by simp;omega
 have HF0:=Lib.hid f0
 clear hk hR0 hlen f0
 go_enter Tryz.func10,Tryz.ntmps10
 go_upto_region 1 with fail
 generalize w.alloc (ido id) = w1 at HX0 b0 k0 hP hXl HF0 ⊢
 generalize w.heap.size = P at b0 hP ⊢
 have D1:∀ wS,Fr noB w1 wS → Calls Tryz.prog 28 #[.slice A0 rs.length c0,encI id] wS (Gives wS (.int .i64 (placeO xs id))):=fun wS f=>r09find_any wS A0 c0 rs.length rs xs rfl (HX0.out.sl.fr0 f) HLN.out (HX0.out.bs.fr0 f) id
 rcases placeO_find xs id with ⟨h1,h2⟩ | ⟨i,hi,h1,h2⟩
 ·rw [h2] at D1
  have HN:=Lib.hid h1
  clear h1 h2
  refine wp_region_fr (by kernel_rfl) (by kernel_rfl) ?_
  iterate 5
   refine wpQ_take (v:=?_) (by rfl) (fun wS hS=>?_) ?_
   rotate_left
   ·obtain ⟨L1,L2,L3,L4,L5,L6⟩:=Fr.same hS;go_simp;try with_reducible rfl
   try simp only [sA1,sA2,sA3,Act.put,sA4,sA5,sA6]
  refine wpQ_call (by rfl) (fun wS hS=>⟨_,_,?qh238,Calls.fr hS (D1 _ hS)⟩) ?qk238
  case qh238=>obtain ⟨L1,L2,L3,L4,L5,L6⟩:=Fr.same hS;go_simp;try with_reducible rfl
  try simp only [sA1,sA2,sA3,Act.put,sA4,sA5,sA6]
  refine wpQ_take (v:=?_) (by rfl) (fun wS hS=>?_) ?_
  rotate_left
  ·obtain ⟨L1,L2,L3,L4,L5,L6⟩:=Fr.same hS;go_simp;try with_reducible rfl
  try simp only [sA1,sA2,sA3,Act.put,sA4,sA5,sA6]
  refine wpQ_nil ?_
  intro w1 f1
  have HF1:=Lib.hid (HF0.out.step0 f1)
  clear f1
  go_wp2_with fail
  refine bodyPost_ret (results_tmp2 rfl _ _ _) rfl ?_
  exact ⟨HF1.out,by rw [HN.out];rfl⟩
 ·rw [h2] at D1
  have HN:=Lib.hid h1
  clear h1 h2
  refine wp_region_fr (by kernel_rfl) (by kernel_rfl) ?_
  iterate 5
   refine wpQ_take (v:=?_) (by rfl) (fun wS hS=>?_) ?_
   rotate_left
   ·obtain ⟨L1,L2,L3,L4,L5,L6⟩:=Fr.same hS;go_simp;try with_reducible rfl
   try simp only [sA1,sA2,sA3,Act.put,sA4,sA5,sA6]
  refine wpQ_call (by rfl) (fun wS hS=>⟨_,_,?qh261,Calls.fr hS (D1 _ hS)⟩) ?qk261
  case qh261=>obtain ⟨L1,L2,L3,L4,L5,L6⟩:=Fr.same hS;go_simp;try with_reducible rfl
  try simp only [sA1,sA2,sA3,Act.put,sA4,sA5,sA6]
  refine wpQ_take (v:=?_) (by rfl) (fun wS hS=>?_) ?_
  rotate_left
  ·obtain ⟨L1,L2,L3,L4,L5,L6⟩:=Fr.same hS;go_simp;try with_reducible rfl
  try simp only [sA1,sA2,sA3,Act.put,sA4,sA5,sA6]
  refine wpQ_nil ?_
  intro w1 f1
  have k1:¬ (i:Int) < 0:=by omega
  have hir:i < rs.length:=by rw [HX0.out.bs.len];exact hi
  have i1:(i:Int) < (rs.length:Int):=by omega
  have HF1:=Lib.hid (HF0.out.step0 f1)
  have HBY:=Lib.hid ((HX0.out.bs.at_ i hir hi).fr0 f1)
  obtain ⟨g,off,rfl,hg,hc⟩:=cellB (HX0.out.sl.fr0 f1) (by omega)
  have c1:=hc i hir
  have c0:=cell_fr0 k0 f1
  clear f1 k0 hc hg b0 hP hXl D1
  generalize xs[i] = b at HBY HN
  generalize rs[i] = r at HBY c1
  obtain ⟨rA,rn,rc⟩:=r
  simp only at c1
  go_wp2_with fail
  refine bodyPost_ret (results_tmp2 rfl _ _ _) rfl ?_
  refine ⟨HF1.out,?_⟩
  rw [HN.out]
  exact ⟨rA,rn,rc,rfl,HBY.out⟩
end Go.Proofs.YtnkdnbjmhoegkaaGreat
