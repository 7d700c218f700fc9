/- Contracts: stamp.put, obj.at. Contracts: obj.open. Variables that a reader's function fills: stores into parts of a value; the state of a reader with two such variables. Contract: stamp.Get. Contract: obj.getItem. Contracts: bytes.Clone, obj.Blob, obj.Label. Contract: obj.Dir. Contract: obj.Change. The frame of a law's proof over package obj's types: arguments of types api.Stamp, api.Head, api.Op, api.Item, api.Change, api.Label and slices of them, opened. -/
import Derived.Test.YthehiobacjjakaaGreatDoorQFrKp
import Derived.Test.YthehiobacjjakaaGreatDoorRightCKp
import Derived.Laws.ResultCell
import Derived.Deep.LoopGhost
import Derived.Test.YthehiobacjjakaaGreatDoorShelfKp
import Derived.Test.YthehiobacjjakaaGreatDoorRows
import Derived.WalkKit
import Derived.ProofKit
import Derived.OpenShut
import Derived.ShutString
import Derived.ChangeOld
import Derived.Below
import Derived.SizedLaws
import Derived.Deep.Slices
set_option linter.unusedVariables false
set_option linter.unusedSimpArgs false
namespace Go.Proofs.YthehiobacjjakaaGreatDoor
open Go.RowKit
structure StAt (w:World) (b:Nat) (s:St):Prop where
 T:w.cell? ⟨b,0,none⟩ = some (.int .i64 s.T)
 R:w.cell? ⟨b,1,none⟩ = some (.int .i64 s.R)
 self:codS.rd w b 0 = some s
theorem stAt {w:World} {b:Nat} {r:St} (h:codS.rd w b 0 = some r):StAt w b r:=by
 have e (k:Nat) {v:Value} (hv:(codS.cs r)[k]? = some v):=by simpa using Cod.rd_cell h k hv
 exact ⟨e 0 rfl,e 1 rfl,h⟩
theorem StAt.fr {w w':World} {b:Nat} {r:St} (h:StAt w b r) (f:Fr noB w w'):StAt w' b r:=stAt (Cod.rd_fr0 h.self f)
def okSt (s:St):Prop:=0 ≤ s.T ∧ s.T ≤ 4611686018427387904 ∧ 0 ≤ s.R ∧ s.R ≤ 4611686018427387904
theorem stB_len {s:St} (h:okSt s):(stB s).length ≤ 20:=by
 obtain ⟨h1,h2,h3,h4⟩:=h
 unfold stB
 rw [List.length_append]
 have h1:=numB_length s.T.toNat (by omega)
 have h2:=numB_length s.R.toNat (by omega)
 omega
theorem okSt_of {s:St} (hr:rightS s = true):okSt s:=by
 simp only [rightS,Bool.and_eq_true,decide_eq_true_eq] at hr
 exact ⟨by omega,by omega,by omega,by omega⟩
theorem enum_z (w:World) (A:Option Addr) (c:Nat) (l:List UInt8) (k:Nat) (hk:l.length = k) (hs:Sl w A (bv l)) (hl:l.length ≤ 140737488355000) (z:Int) (n:Nat) (hz:(n:Int) = z) (hn:n ≤ 4611686018427387904) :
  Calls Tryz.prog 115 #[.slice A k c,.int .i64 z] w (NewBytes w (l ++ numB n)):=by subst hz;exact enum_n w A c l k hk hs hl n hn
theorem NewBytes.sl {w w':World} {l:List UInt8} {A:Option Addr} {c:Nat} (h:w'.ownsRow w.heap.size 5 1 (.slice A l.length c) l.length (bv l)):Sl w' A (bv l):=Sl.own h
set_option maxRecDepth 100000 in
set_option maxHeartbeats 2000000 in
theorem oat_any (w:World) (A:Option Addr) (c n:Nat) (l:List UInt8) (hn:l.length = n) (hs:Sl w A (bv l)) (hb:l.length ≤ 140737488354000) (s:St) (hok:okSt s) :
  Calls Tryz.prog 118 #[.slice A n c,.agg (codS.A s)] w (NewBytes w (l ++ stB s)):=by
 subst hn
 have f0:Fr noB w (w.alloc (.cells (codS.A s) 24)):=(Fr.refl noB w).alloc _
 have q0:StAt (w.alloc (.cells (codS.A s) 24)) w.heap.size s:=stAt (Cod.rd_new w 24 s)
 have hs0:=hs.fr0 f0
 go_enter Tryz.func118,Tryz.ntmps118
 go_upto_region 1 with fail
 generalize w.alloc (.cells (codS.A s) 24) = w0 at f0 q0 hs0 ⊢
 generalize hP:w.heap.size = P at q0 ⊢
 have fd:=(Fr.refl noB w0).drew
 have qd:=q0.fr fd
 have keep:∀ w' w'':World,Fr noB w' w'' → (w'.cell? ⟨P,0,none⟩ = some (.int .i64 s.T) ∧ w'.cell? ⟨P,1,none⟩ = some (.int .i64 s.R)) → (w''.cell? ⟨P,0,none⟩ = some (.int .i64 s.T) ∧ w''.cell? ⟨P,1,none⟩ = some (.int .i64 s.R)):=fun w' w'' f h=>⟨cell_fr0 h.1 f,cell_fr0 h.2 f⟩
 obtain ⟨o1,o2,o3,o4⟩:=hok
 have p1:((s.T.toNat:Nat):Int) = s.T:=by omega
 have p2:s.T.toNat ≤ 4611686018427387904:=by omega
 have p3:((s.R.toNat:Nat):Int) = s.R:=by omega
 have p4:s.R.toNat ≤ 4611686018427387904:=by omega
 have hl1:=numB_length s.T.toNat p2
 have p5:(l ++ numB s.T.toNat).length ≤ 140737488355000:=by rw [List.length_append];omega
 have p6:l.length ≤ 140737488355000:=by omega
 have P1:=Lib.hid p1
 have P3:=Lib.hid p3
 clear p1 p3
 go_wp2_with fail
 refine wp_region_M 7 8 [⟨32,1,0⟩,⟨64,8,0⟩,⟨128,64,2⟩,⟨256,160,5⟩,⟨512,8,0⟩,⟨1024,512,16⟩,⟨2048,1280,40⟩,⟨16,2048,127⟩] [(true,0),(true,1),(true,2),(true,4),(true,5),(false,3),(false,6)] (fun w'=>w'.cell? ⟨P,0,none⟩ = some (.int .i64 s.T) ∧ w'.cell? ⟨P,1,none⟩ = some (.int .i64 s.R)) (by kernel_rfl) rfl (by kernel_rfl) (by kernel_rfl) (by kernel_rfl) ⟨qd.T,qd.R⟩ (fun hA hF=>?_)
 iterate 5
  refine wpAnyS_take (v:=?_) hA rfl (fun _ _ _ h=>h) (Or.inl ⟨by rfl,?_⟩) hF (fun hA=>?_)
  rotate_left
  ·intro wS hSw;(try dsimp only at hSw);obtain ⟨s1,s2⟩:=hSw;first | (apply Eq.trans;apply ex_ld_id;exact rfl;exact rfl;assumption;with_reducible rfl) | (go_simp;try with_reducible rfl)
  try simp only [sA1,sA2,sA3,Act.put,sA4,sA5,sA6]
 refine wpAnyS_one hA rfl (fun K' hK=>?_)
 go_simp
 go_at_call 115
 refine (enum_z w0.drew A c l _ rfl (hs0.fr0 fd) p6 s.T s.T.toNat P1.out p2).mono ?_
 rintro e w1 ⟨A1,c1,rfl,ho1,hf1⟩
 obtain ⟨l1,hl1e⟩:∃ l1,l1 = l ++ numB s.T.toNat:=⟨_,rfl⟩
 rw [← hl1e] at ho1 p5 ⊢
 have HL:=Lib.hid hl1e
 clear hl1e
 replace hF:=keep _ _ hf1 hF
 refine hK.out _ _ hF (fun hA=>?_)
 clear hK K'
 as_aux_lemma =>
 refine wpAnyS_one hA rfl (fun K' hK=>?_)
 go_simp
 go_at_call 115
 refine (enum_z w1 A1 c1 l1 l1.length rfl (Sl.own ho1) p5 s.R s.R.toNat P3.out p4).mono ?_
 rintro e w2 ⟨A2,c2,rfl,ho2,hf2⟩
 replace hF:=keep _ _ hf2 hF
 refine hK.out _ _ hF (fun hA=>?_)
 clear hK K'
 as_aux_lemma =>
 refine wpAnyS_end hA rfl ?_
 simp only [List.drop_succ_cons,List.drop_zero]
 clear hF
 go_wp2_with fail
 go_ret
 have hbs:w.heap.size ≤ w1.heap.size:=Nat.le_trans (Nat.le_trans f0.size fd.size) hf1.size
 have e:l1 ++ numB s.R.toNat = l ++ stB s:=by rw [HL.out];unfold stB;rw [List.append_assoc]
 rw [e] at ho2 ⊢
 exact ⟨A2,c2,rfl,own_base ho2 hbs,((f0.step0 fd).step0 hf1).step0 hf2⟩
end Go.Proofs.YthehiobacjjakaaGreatDoor
namespace Go.Proofs.YthehiobacjjakaaGreatDoor
open Go.RowKit
end Go.Proofs.YthehiobacjjakaaGreatDoor
namespace Go.Proofs.YthehiobacjjakaaGreatDoor
open Go.RowKit
/-! '.. {a}': the first field given -/
theorem A_SS (x:St):codS.A x = #[.int .i64 x.T,.int .i64 x.R]:=Cod.A_eq codS x
/-! stores into parts -/
theorem step_runI {P:Program} {w:World} {ops:Array Oper} {o:Oper} {a:Act} {K:Act → World → Prop} {Q:Exit → Act → World → Prop} {E:Prop} (hgd:o.guard = none) (v:Value) (w':World)
  (hr:(execOp a.eval o).run P w = .ok (.value v) w') (h:K (a.put o.dst v) w'):if Region.wanted o (yielded ops a.tmps) = true then Oper.wp P o a w K Q else E:=by
 have hw:Region.wanted o (yielded ops a.tmps) = true:=by simp [Region.wanted,hgd]
 rw [if_pos hw]
 unfold Oper.wp
 rw [hr]
 exact h
/-! contracts whose outcome is named -/
/-! a reader, the result's variable, and one more -/
section
variable {α:Type} {C:Cod α} {M:Nat → Prop} {W w:World} {p R P:Nat} {s:RS} {Q:Nat → Prop} {z r:α}
theorem own_box {base:Nat} {e:TypeId} {size n g:Nat} {v:Value} {xs cs:List Value} {t:TypeId} {w':World} (hb:Blk w g t cs) (h:w.ownsRow base e size v n xs) (hne:e ≠ t) (f:Fr (oneB g) w w'):w'.ownsRow base e size v n xs :=
 own_fr h f (fun g' hg' hM=>Blk.ne_own hb h hne g' hg' (by have:g' = g:=hM;exact this))
theorem own_new0 {base:Nat} {e:TypeId} {size n:Nat} {v:Value} {xs:List Value} {w':World} (h:w.ownsRow base e size v n xs) (f:Fr noB w w'):w'.ownsRow base e size v n xs :=
 own_fr h f (fun g' hg' hM=>by simp [noB] at hM)
end
section
variable {α:Type} {C:Cod α} (H:CodOk Tryz.prog C)
include H
theorem ret_row {fn:Func} {p:Tmp} (h:fn.results = #[.cell p C.t]) (tmps:Array Value) (w:World) (R:Nat) (x:α) (hp:tmps.getD p undef = .pointer (some ⟨R,0,none⟩)) (hb:C.bxd w R = some x):(results fn tmps).run Tryz.prog w = .ok (.agg (C.A x)) w:=by
 obtain ⟨d,h1,h2⟩:=H.und
 have hh:=Cod.bxd_at hb
 rw [C.o_eq] at hh
 rw [C.A_eq]
 refine results_cell_row h tmps w R C.t _ _ d hp hh h1 ?_ (by rw [List.size_toArray,C.len];exact H.info)
 cases d <;> first | rfl | exact h2
theorem ret_row_tmp {fn:Func} {p u:Tmp} (h:fn.results = #[.cell p C.t,.tmp u]) (tmps:Array Value) (w:World) (R:Nat) (x:α) (hp:tmps.getD p undef = .pointer (some ⟨R,0,none⟩)) (hb:C.bxd w R = some x):(results fn tmps).run Tryz.prog w = .ok (.tuple #[.agg (C.A x),tmps.getD u undef]) w:=by
 obtain ⟨d,h1,h2⟩:=H.und
 have hl:=run_loadVar_mid (P:=Tryz.prog) w R 0 C.t (C.cs x) d (Cod.rd_rd (Cod.bxd_rd hb)) h1 h2 (by rw [C.len];exact H.info)
 rw [results_cell_tmp h,hp]
 simp only [asAddr,Sem.run_pure,Result.andThen_ok,hl,C.A_eq]
end
end Go.Proofs.YthehiobacjjakaaGreatDoor
namespace Go.Proofs.YthehiobacjjakaaGreatDoor
open Go.RowKit
end Go.Proofs.YthehiobacjjakaaGreatDoor
namespace Go.Proofs.YthehiobacjjakaaGreatDoor
open Go.RowKit
theorem own_lt {w:World} {base:Nat} {e:TypeId} {size n c:Nat} {A:Option Addr} {xs:List Value} (h:w.ownsRow base e size (.slice A n c) n xs) (g:Nat) (hg:A.map (·.block) = some g):base ≤ g ∧ g < w.heap.size:=by
 have:=h.lt g (by rw [ownBlock_sl'];exact hg)
 exact this
end Go.Proofs.YthehiobacjjakaaGreatDoor
namespace Go.Proofs.YthehiobacjjakaaGreatDoor
open Go.RowKit
end Go.Proofs.YthehiobacjjakaaGreatDoor
namespace Go.Proofs.YthehiobacjjakaaGreatDoor
open Go.RowKit
structure ItsOwn (W w:World) (rs:List ItW) (xs:List It):Prop where
 len:rs.length = xs.length
 at_:∀ i (h:i < rs.length) (h':i < xs.length),ItIn w rs[i] xs[i] ∧ w.ownsRow W.heap.size 78 34 (.slice (rs[i]).A (rs[i]).n (rs[i]).c) (rs[i]).n (codH.row (xs[i]).Heads)
theorem ItIn.of {w w':World} {r:ItW} {x:It} (h:ItIn w r x) {base:Nat} (ho:w'.ownsRow base 78 34 (.slice r.A r.n r.c) r.n (codH.row x.Heads)):ItIn w' r x:=⟨h.eq,h.len,Sl.own ho,h.bd,h.nm⟩
theorem ItsOwn.map {W w w':World} {rs:List ItW} {xs:List It} (h:ItsOwn W w rs xs) (k:∀ (v:Value) (n:Nat) (l:List Value),w.ownsRow W.heap.size 78 34 v n l → w'.ownsRow W.heap.size 78 34 v n l):ItsOwn W w' rs xs :=
 ⟨h.len,fun i h1 h2=>by
  obtain ⟨a,b⟩:=h.at_ i h1 h2
  have b':=k _ _ _ b
  exact ⟨a.of b',b'⟩⟩
section
variable {W w w':World} {p:Nat} {Q:Nat → Prop} {s s':RS} {A:Option Addr} {c:Nat} {rs:List ItW} {xs:List It}
end
end Go.Proofs.YthehiobacjjakaaGreatDoor
namespace Go.Proofs.YthehiobacjjakaaGreatDoor
open Go.RowKit
def codI:Cod ID:=⟨33,32,fun x=>bv x.1,zID,fun x=>by rw [bv_length,x.2],by decide,fun x=>bv_one x.1,fun x y h=>Subtype.ext (bv_inj h)⟩
structure OpsOwn (W w:World) (rs:List OpW) (xs:List Opn):Prop where
 len:rs.length = xs.length
 at_:∀ i (h:i < rs.length) (h':i < xs.length),OpIn w rs[i] xs[i] ∧ w.ownsRow W.heap.size 24 2 (.slice (rs[i]).A (rs[i]).n (rs[i]).c) (rs[i]).n (codS.row (xs[i]).Over)
theorem OpIn.of {w w':World} {r:OpW} {x:Opn} (h:OpIn w r x) {base:Nat} (ho:w'.ownsRow base 24 2 (.slice r.A r.n r.c) r.n (codS.row x.Over)):OpIn w' r x:=⟨h.eq,h.len,Sl.own ho,h.bd,h.nm⟩
theorem OpsOwn.map {W w w':World} {rs:List OpW} {xs:List Opn} (h:OpsOwn W w rs xs) (k:∀ (v:Value) (n:Nat) (l:List Value),w.ownsRow W.heap.size 24 2 v n l → w'.ownsRow W.heap.size 24 2 v n l):OpsOwn W w' rs xs :=
 ⟨h.len,fun i h1 h2=>by
  obtain ⟨a,b⟩:=h.at_ i h1 h2
  have b':=k _ _ _ b
  exact ⟨a.of b',b'⟩⟩
section
variable {W w w':World} {A B:Option Addr} {c d:Nat} {ps:List ID} {rs:List OpW} {os:List Opn}
end
end Go.Proofs.YthehiobacjjakaaGreatDoor
namespace Go.Proofs.YthehiobacjjakaaGreatDoor
open Go.ChangeShapes Go.WideShapes Go.ChangeAt Go.RowKit Go.Deep
theorem own:ownKnob Tryz.prog.godebug = none:=by kernel_rfl
theorem laidOut:laidOutB Tryz.prog = true:=by kernel_rfl
theorem list_of_all {α:Type} {Q:Nat → α → Prop} (n:Nat) (h:∀ i,i < n → ∃ p,Q i p):∃ ps:List α,ps.length = n ∧ ∀ i (hi:i < ps.length),Q i ps[i]:=by
 induction n with
 | zero=>exact ⟨[],rfl,fun i hi=>by simp at hi⟩
 | succ n ih =>
  obtain ⟨ps,hl,hq⟩:=ih (fun i hi=>h i (by omega))
  obtain ⟨p,hp⟩:=h n (by omega)
  refine ⟨ps ++ [p],by simp [hl],fun i hi=>?_⟩
  by_cases hi':i < ps.length
  ·rw [List.getElem_append_left hi'];exact hq i hi'
  ·have:i = ps.length:=by simp at hi;omega
   subst this
   simp only [List.getElem_append_right (Nat.le_refl _),Nat.sub_self,List.getElem_cons_zero]
   rw [hl];exact hp
theorem u8_wf {a:Int} (h:(Lit.int .u8 a).wf = true):0 ≤ a ∧ a < 256:=by
 simp [Lit.wf] at h
 have e1:IntKind.u8.min = 0:=rfl
 have e2:IntKind.u8.max = 255:=rfl
 rw [e1,e2] at h
 omega
theorem cut_one {cs p:List Value} {a k b:Nat} (h:(cs.drop a).take k = p) (hb:a + k = b):cs.drop a = p ++ cs.drop b:=by
 subst hb
 rw [← h,← List.drop_drop,List.take_append_drop]
theorem cut_end {cs:List Value} {n:Nat} (h:cs.length = n):cs.drop n = []:=List.drop_eq_nil_of_le (by omega)
section
variable {H:Type} {enc:TypeId × Value → H} {W:World}
def Td (enc:TypeId × Value → H) (W:World) (fuel:Nat) (t:TypeId) (cs:List Value) (x:DataW H × List MemPlace):Prop :=
 DataW.trod enc Tryz.prog W 0 (fun _=>true) true fuel t cs = some x ∧ ∀ n ∈ x.1.weights Tryz.prog t,n ≤ reachBytes
theorem wAll_mem {e:TypeId} {d:DataW H} {l:List (DataW H)} (hd:d ∈ l) {n:Nat} (hn:n ∈ d.weights Tryz.prog e):n ∈ DataW.weightsAll Tryz.prog e l:=by
 induction l with
 | nil=>simp at hd
 | cons y l ih =>
  simp only [DataW.weightsAll,List.mem_append]
  rcases List.mem_cons.1 hd with rfl | h
  ·exact .inl hn
  ·exact .inr (ih h)
theorem td_fld {t:TypeId} {fs:Array Field} {fuel:Nat} {cs:List Value} {x:DataW H × List MemPlace} (ht:Tryz.prog.underlying t = some (.struct fs)) (h:Td enc W fuel t cs x) :
  ∃ n,cs.length = Tryz.prog.cellsOf t ∧ ∀ (i:Nat) f,fs[i]? = some f → ∃ y,Td enc W n f.type ((cs.drop f.offset).take (Tryz.prog.cellsOf f.type)) y:=by
 obtain ⟨h,hw⟩:=h
 obtain ⟨xs,n,_,rfl,hl,hlen,hf⟩:=DataW.trod_struct ht h
 refine ⟨n,hl,fun i f hi=>?_⟩
 have hil:i < xs.length:=by rw [hlen];exact (Array.getElem?_eq_some_iff.1 hi).1
 refine ⟨xs[i],(hf i f hi).trans (List.getElem?_eq_getElem hil),fun m hm=>hw m ?_⟩
 simp only [DataW.weights,ht]
 exact DataW.weights_mem_each (j:=i) (by simp [hi]) (by rw [List.getElem?_map,List.getElem?_eq_getElem hil];rfl) m hm
theorem td_f2 {t:TypeId} {f0 f1:Field} {fuel:Nat} {cs:List Value} {x:DataW H × List MemPlace} (ht:Tryz.prog.underlying t = some (.struct #[f0,f1])) (h:Td enc W fuel t cs x) :
  ∃ n,cs.length = Tryz.prog.cellsOf t ∧ (∃ y,Td enc W n f0.type ((cs.drop f0.offset).take (Tryz.prog.cellsOf f0.type)) y) ∧ (∃ y,Td enc W n f1.type ((cs.drop f1.offset).take (Tryz.prog.cellsOf f1.type)) y):=by
 obtain ⟨n,hl,hf⟩:=td_fld ht h
 exact ⟨n,hl,hf 0 f0 rfl,hf 1 f1 rfl⟩
theorem td_f5 {t:TypeId} {f0 f1 f2 f3 f4:Field} {fuel:Nat} {cs:List Value} {x:DataW H × List MemPlace} (ht:Tryz.prog.underlying t = some (.struct #[f0,f1,f2,f3,f4])) (h:Td enc W fuel t cs x) :
  ∃ n,cs.length = Tryz.prog.cellsOf t ∧ (∃ y,Td enc W n f0.type ((cs.drop f0.offset).take (Tryz.prog.cellsOf f0.type)) y) ∧ (∃ y,Td enc W n f1.type ((cs.drop f1.offset).take (Tryz.prog.cellsOf f1.type)) y) ∧ (∃ y,Td enc W n f2.type ((cs.drop f2.offset).take (Tryz.prog.cellsOf f2.type)) y) ∧ (∃ y,Td enc W n f3.type ((cs.drop f3.offset).take (Tryz.prog.cellsOf f3.type)) y) ∧ (∃ y,Td enc W n f4.type ((cs.drop f4.offset).take (Tryz.prog.cellsOf f4.type)) y):=by
 obtain ⟨n,hl,hf⟩:=td_fld ht h
 exact ⟨n,hl,hf 0 f0 rfl,hf 1 f1 rfl,hf 2 f2 rfl,hf 3 f3 rfl,hf 4 f4 rfl⟩
theorem td_int {t:TypeId} {k:IntKind} {fuel:Nat} {cs:List Value} {x:DataW H × List MemPlace} (ht:Tryz.prog.underlying t = some (.int k)) (h:Td enc W fuel t cs x):∃ a,cs = [.int k a]:=by
 obtain ⟨a,ea,_,_⟩:=DataW.trod_int ht h.1
 exact ⟨a,ea⟩
theorem td_str {t:TypeId} {fuel:Nat} {cs:List Value} {x:DataW H × List MemPlace} (ht:Tryz.prog.underlying t = some .string) (h:Td enc W fuel t cs x):∃ l:List UInt8,cs = [.string (str l)] ∧ l.length ≤ 140737488355328:=by
 obtain ⟨h,hw⟩:=h
 obtain ⟨s,e,rfl,hs⟩:=DataW.trod_string ht h
 refine ⟨s.data.toList,e,?_⟩
 have:=hw s.data.toList.length (by simp [DataW.weights])
 simp only [reachBytes] at this
 omega
set_option maxRecDepth 100000 in
theorem td_id {fuel:Nat} {cs:List Value} {x:DataW H × List MemPlace} (h:Td enc W fuel 33 cs x):∃ y:ID,cs = bv y.1:=by
 obtain ⟨xs,k,_,_,hcl,hxl,he⟩:=DataW.trod_array Tryz.underlying33 h.1
 have c32:Tryz.prog.cellsOf 33 = 32:=by kernel_rfl
 have c1:Tryz.prog.cellsOf 5 = 1:=by kernel_rfl
 rw [c32] at hcl
 rw [c1] at he
 have hp:∀ i,i < 32 → ∃ b:UInt8,cs[i]? = some (u8v b):=by
  intro i hi
  have e:=he i hi
  rw [List.getElem?_eq_getElem (by omega)] at e
  have hd:(cs.drop (i * 1)).take 1 = [cs[i]'(by omega)]:=by
   rw [Nat.mul_one,List.drop_eq_getElem_cons (by omega)];rfl
  rw [hd] at e
  obtain ⟨a,ea,_,hw⟩:=DataW.trod_int Tryz.underlying5 e
  simp only [List.cons.injEq,and_true] at ea
  have hb:=u8_wf hw
  refine ⟨UInt8.ofNat a.toNat,?_⟩
  rw [List.getElem?_eq_getElem (by omega),ea]
  unfold u8v
  rw [UInt8.toNat_ofNat',Nat.mod_eq_of_lt (by omega)]
  congr 2
  omega
 obtain ⟨bs,hl,hq⟩:=list_of_all 32 hp
 refine ⟨⟨bs,hl⟩,?_⟩
 apply List.ext_getElem?
 intro i
 by_cases hi:i < 32
 ·rw [hq i (by omega),bv_get _ _ (by show i < bs.length;omega)];rfl
 ·rw [List.getElem?_eq_none (by omega),List.getElem?_eq_none (by rw [bv_length];show bs.length ≤ i;omega)]
set_option maxRecDepth 100000 in
theorem td_slk {α:Type} (C:Cod α) {R:α → Prop} {ts:TypeId} (hts:Tryz.prog.underlying ts = some (.slice C.t)) (hC:Tryz.prog.cellsOf C.t = C.n) {k:Nat} (hk:1 ≤ k) (hB:k ≤ Tryz.prog.bytesOf C.t)
  (hel:∀ n cs x,Td enc W n C.t cs x → ∃ a,cs = C.cs a ∧ R a) {fuel:Nat} {cs:List Value} {x:DataW H × List MemPlace} (h:Td enc W fuel ts cs x) :
  ∃ (B:Option Addr) (xs:List α) (c:Nat),cs = [.slice B xs.length c] ∧ Sl W B (C.row xs) ∧ xs.length * k ≤ 140737488355328 ∧ xs.length ≤ c ∧ ∀ i (hi:i < xs.length),R xs[i]:=by
 obtain ⟨h,hw⟩:=h
 rcases open_slice hts h with ⟨hcs,_⟩ | ⟨a,l,c,m,n,D,Pl,hcs,_,hl,hm,hmm,rfl,hall⟩
 ·exact ⟨none,[],0,hcs,Sl.nil _ _,by simp,by simp,fun i hi=>by simp at hi⟩
 ·simp only [if_true] at hmm
  subst hmm
  simp only [DataW.weights,hts] at hw
  have hwl:l * k ≤ 140737488355328:=by
   have h1:=hw _ (List.mem_cons_self ..)
   simp only [List.length_map,List.length_range,reachBytes] at h1
   have h2:=Nat.mul_le_mul_left (l + (m - l)) hB
   have h3:=Nat.mul_le_mul_right k (show l ≤ l + (m - l) by omega)
   omega
  rw [hC] at hall
  have hp:∀ i,i < l → ∃ y:α,(∀ j (v:Value),(C.cs y)[j]? = some v → W.cell? ((a.add (i * C.n)).add j) = some v) ∧ R y:=by
   intro i hi
   obtain ⟨cs',hc,ht⟩:=hall i (by omega)
   obtain ⟨_,hcl,hat⟩:=World.cells?_some hc
   obtain ⟨y,rfl,hr⟩:=hel _ _ _ ⟨ht,fun k hk=>hw k (List.mem_cons_of_mem _ (List.mem_append_left _ (wAll_mem (List.mem_map.2 ⟨i,List.mem_range.2 hi,rfl⟩) hk)))⟩
   refine ⟨y,fun j v hv=>?_,hr⟩
   have hj:j < C.n:=by have:=(List.getElem?_eq_some_iff.1 hv).1;rw [C.len] at this;exact this
   exact (hat j hj).trans hv
  obtain ⟨ps,hpl,hq⟩:=list_of_all l hp
  refine ⟨some a,ps,_,by rw [hpl];exact hcs,fun hne=>?_,by rw [hpl];exact hwl,by omega,fun i hi=>(hq i hi).2⟩
  obtain ⟨g,off,spot⟩:=a
  have hpos:0 < ps.length:=by
   rcases Nat.eq_zero_or_pos ps.length with h0 | h0
   ·have:ps = []:=List.eq_nil_of_length_eq_zero h0
    subst this;simp [Cod.row] at hne
   ·exact h0
  have hn:=C.pos
  have h00:=(hq 0 hpos).1 0 _ (List.getElem?_eq_getElem (by rw [C.len];exact hn))
  have hspot:spot = none:=by simpa [Addr.add] using World.cell?_spot h00
  subst hspot
  have hadd:∀ (o j:Nat),(⟨g,o,none⟩:Addr).add j = ⟨g,o + j,none⟩:=by intro o j;unfold Addr.add;split <;> simp_all
  refine ⟨g,off,rfl,World.block_lt_of_cell? _ _ (by rw [hadd,hadd] at h00;exact h00),fun j u hu=>?_⟩
  have hjl:j < ps.length * C.n:=by have:=(List.getElem?_eq_some_iff.1 hu).1;rw [Cod.row_len] at this;exact this
  have hi:j / C.n < ps.length:=Nat.div_lt_of_lt_mul (by rw [Nat.mul_comm];exact hjl)
  have hk:j % C.n < (C.cs ps[j / C.n]).length:=by rw [C.len];exact Nat.mod_lt _ hn
  have h1:=(hq (j / C.n) hi).1 (j % C.n) _ (List.getElem?_eq_getElem hk)
  have h2:=Cod.row_get ps (j / C.n) (j % C.n) hi _ (List.getElem?_eq_getElem hk)
  have hdm:j / C.n * C.n + j % C.n = j:=Nat.div_add_mod' j C.n
  rw [hdm] at h2
  rw [h2] at hu
  injection hu with hu
  rw [← hu]
  rw [hadd,hadd,Nat.add_assoc,hdm] at h1
  exact h1
theorem td_sl {α:Type} (C:Cod α) {R:α → Prop} {ts:TypeId} (hts:Tryz.prog.underlying ts = some (.slice C.t)) (hC:Tryz.prog.cellsOf C.t = C.n) (hB:1 ≤ Tryz.prog.bytesOf C.t)
  (hel:∀ n cs x,Td enc W n C.t cs x → ∃ a,cs = C.cs a ∧ R a) {fuel:Nat} {cs:List Value} {x:DataW H × List MemPlace} (h:Td enc W fuel ts cs x) :
  ∃ (B:Option Addr) (xs:List α) (c:Nat),cs = [.slice B xs.length c] ∧ Sl W B (C.row xs) ∧ xs.length ≤ 140737488355328 ∧ xs.length ≤ c ∧ ∀ i (hi:i < xs.length),R xs[i]:=by
 obtain ⟨B,xs,c,h1,h2,h3,h4⟩:=td_slk C hts hC (Nat.le_refl 1) hB hel h
 exact ⟨B,xs,c,h1,h2,by omega,h4⟩
/-! the types of package api -/
set_option maxRecDepth 100000 in
theorem td_st {fuel:Nat} {cs:List Value} {x:DataW H × List MemPlace} (h:Td enc W fuel 24 cs x):∃ y:St,cs = csS y:=by
 obtain ⟨n,hl,⟨_,y0⟩,⟨_,y1⟩⟩:=td_f2 Tryz.underlying24 h
 have cl:Tryz.prog.cellsOf 24 = 2:=by kernel_rfl
 have c1:Tryz.prog.cellsOf 2 = 1:=by kernel_rfl
 have c2:Tryz.prog.cellsOf 3 = 1:=by kernel_rfl
 rw [cl] at hl
 obtain ⟨a0,e0⟩:=td_int Tryz.underlying2 y0
 obtain ⟨a1,e1⟩:=td_int Tryz.underlying3 y1
 simp only [c1,c2] at e0 e1
 refine ⟨⟨a0,a1⟩,?_⟩
 have:=cut_one e0 rfl
 rw [List.drop_zero] at this
 rw [this,cut_one e1 rfl,cut_end hl];rfl
set_option maxRecDepth 100000 in
theorem td_val {α:Type} (C:Cod α) {fs:Array Field} (ht:Tryz.prog.underlying C.t = some (.struct fs)) {R:α → Prop} (hel:∀ n cs x,Td enc W n C.t cs x → ∃ a,cs = C.cs a ∧ R a) {base:Nat} {v:Value} {d:DataW H} {p:List MemPlace}
  (hv:Value.okWide Tryz.prog W .any base C.t v) (h:DataW.Trod enc Tryz.prog W 0 (fun _=>true) true C.t v d p) (hw:∀ n ∈ d.weights Tryz.prog C.t,n ≤ reachBytes):∃ a,v = .agg (C.A a) ∧ R a:=by
 obtain ⟨cs,rfl,_⟩:=okWide_struct ht hv
 obtain ⟨fuel,hf⟩:=h
 obtain ⟨a,ha,hr⟩:=hel fuel _ (d,p) ⟨hf,hw⟩
 refine ⟨a,?_,hr⟩
 have:cs.toList = C.cs a:=by simpa [Value.cells] using ha
 rw [Cod.A_eq,← this]
theorem wt_arg {ts:List TypeId} {ds:List (DataW H)} (h:(DataW.weightsEach Tryz.prog ts ds).all (· ≤ reachBytes) = true) {j:Nat} {t:TypeId} {d:DataW H} (ht:ts[j]? = some t) (hd:ds[j]? = some d):∀ n ∈ d.weights Tryz.prog t,n ≤ reachBytes:=fun n hn=>by
 simpa using List.all_eq_true.1 h n (DataW.weights_mem_each ht hd n hn)
set_option maxRecDepth 100000 in
theorem td_hd {fuel:Nat} {cs:List Value} {x:DataW H × List MemPlace} (h:Td enc W fuel 78 cs x):∃ y:Hd,cs = csH y:=by
 obtain ⟨n,hl,⟨_,y0⟩,⟨_,y1⟩⟩:=td_f2 Tryz.underlying78 h
 have cl:Tryz.prog.cellsOf 78 = 34:=by kernel_rfl
 rw [cl] at hl
 have c0:Tryz.prog.cellsOf 24 = 2:=by kernel_rfl
 obtain ⟨a0,e0⟩:=td_st y0
 simp only [c0] at e0
 have c1:Tryz.prog.cellsOf 33 = 32:=by kernel_rfl
 obtain ⟨a1,e1⟩:=td_id y1
 simp only [c1] at e1
 have e:=cut_one e0 rfl
 rw [List.drop_zero] at e
 rw [cut_one e1 rfl,cut_end hl] at e
 exact ⟨⟨a0,a1⟩,by rw [e];simp [csH,csS]⟩
theorem list_R {α β:Type} {R:α → β → Prop} {l:List α} (h:∀ i (hi:i < l.length),∃ b,R l[i] b):∃ m:List β,l.length = m.length ∧ ∀ i (h1:i < l.length) (h2:i < m.length),R l[i] m[i]:=by
 obtain ⟨m,hm,hq⟩:=list_of_all (Q:=fun i b=>∃ hi:i < l.length,R l[i] b) l.length (fun i hi=>by obtain ⟨b,hb⟩:=h i hi;exact ⟨b,hi,hb⟩)
 exact ⟨m,hm.symm,fun i h1 h2=>(hq i h2).2⟩
/-! bytes -/
end
end Go.Proofs.YthehiobacjjakaaGreatDoor
