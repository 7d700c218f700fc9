/- Contract: pollardref17.put. (ex_ldS_at ex_ldR_at) -/
import Derived.Test.YthehiobacjjakaaGreatDoorRfQKp
import Derived.Test.YthehiobacjjakaaGreatDoorWkIKp
import Derived.Test.YthehiobacjjakaaGreatDoorRegTKp
import Derived.Deep.CutRange
set_option linter.unusedVariables false
set_option linter.unusedSimpArgs false
namespace Go.Proofs.YthehiobacjjakaaGreatDoor
open Go.RowKit Go.Maps Go.Sort
def putG {α:Type} (f:α → St) (x:α):Bool → List α → List α
 | d,[]=>if d then [] else [x]
 | d,y :: l=>(if !d && decide (0 ≤ cmpS (f y) (f x)) then [x] else []) ++ ((if f y = f x then [] else [y]) ++ putG f x (d || decide (0 ≤ cmpS (f y) (f x))) l)
theorem putG_true (x:RwP):∀ l:List RwP,putG RwP.Node x true l = l.filter fun y=>!decide (y.Node = x.Node)
 | []=>rfl
 | y :: l=>by
  unfold putG
  rw [Bool.true_or,putG_true x l]
  by_cases h:y.Node = x.Node <;> simp [h]
theorem putG_eq {xs:List RwP} (hp:xs.Pairwise fun a b=>cmpS a.Node b.Node < 0) {x:RwP} (h:(findR xs x.Node).isSome = true ∨ ∀ y ∈ xs,cmpS y.Node x.Node < 0):putG RwP.Node x false xs = putR xs x:=by
 have low:∀ l:List RwP,(∀ y ∈ l,cmpS y.Node x.Node < 0) → putG RwP.Node x false l = l ++ [x]:=fun l=>by
  induction l with
  | nil=>intro _;rfl
  | cons y l ih =>
   intro hl
   have h1:=hl y (by simp)
   have h2:¬ 0 ≤ cmpS y.Node x.Node:=by omega
   have h3:¬ y.Node = x.Node:=fun e=>by rw [e,cmpS_self] at h1;omega
   unfold putG
   rw [decide_eq_false h2,Bool.or_false,ih (fun z hz=>hl z (by simp [hz]))]
   simp [h3]
 have mid:∀ l:List RwP,l.Pairwise (fun a b=>cmpS a.Node b.Node < 0) → (∃ y ∈ l,y.Node = x.Node) → putG RwP.Node x false l = l.map (fun y=>if y.Node = x.Node then x else y):=fun l=>by
  induction l with
  | nil=>intro _ h;obtain ⟨y,hy,_⟩:=h;simp at hy
  | cons z l ih =>
   intro hl he
   rw [List.pairwise_cons] at hl
   by_cases hz:z.Node = x.Node
   ·have h0:0 ≤ cmpS z.Node x.Node:=by rw [hz,cmpS_self];omega
    unfold putG
    rw [decide_eq_true h0,Bool.or_true,putG_true]
    have h1:∀ y ∈ l,y.Node ≠ x.Node:=fun y hy e=>by
     have:=hl.1 y hy
     rw [hz,e,cmpS_self] at this
     omega
    have h2:l.filter (fun y=>!decide (y.Node = x.Node)) = l:=List.filter_eq_self.2 fun y hy=>by simp [h1 y hy]
    have h3:l.map (fun y=>if y.Node = x.Node then x else y) = l:=by
     rw [List.map_congr_left (g:=id) (fun y hy=>by simp [h1 y hy])]
     simp
    rw [h2,List.map_cons,h3]
    simp [hz]
   ·obtain ⟨y,hy,e⟩:=he
    have hy':y ∈ l:=by
     rcases List.mem_cons.1 hy with rfl | hy
     ·exact absurd e hz
     ·exact hy
    have h0:¬ 0 ≤ cmpS z.Node x.Node:=by
     have:=hl.1 y hy'
     rw [e] at this
     omega
    unfold putG
    rw [decide_eq_false h0,Bool.or_false,ih hl.2 ⟨y,hy',e⟩]
    simp [hz]
 unfold putR
 cases hf:findR xs x.Node with
 | some y =>
  obtain ⟨h1,h2⟩:=findR_some hf
  simp only [Option.isSome_some,if_true]
  exact mid xs hp ⟨y,h1,h2⟩
 | none =>
  rw [if_neg (by simp)]
  rcases h with h | h
  ·rw [hf] at h;cases h
  ·exact low xs h
def PutS (r:RwW) (rs nx:List RwW) (b:Bool) (k:Nat):Prop:=putG RwW.Node r false rs = nx ++ putG RwW.Node r b (rs.drop k)
theorem PutS.step {r:RwW} {rs nx:List RwW} {b:Bool} {k:Nat} (h:PutS r rs nx b k) (hk:k < rs.length) :
  PutS r rs (nx ++ ((if !b && decide (0 ≤ cmpS rs[k].Node r.Node) then [r] else []) ++ (if rs[k].Node = r.Node then [] else [rs[k]]))) (b || decide (0 ≤ cmpS rs[k].Node r.Node)) (k + 1):=by
 unfold PutS at h ⊢
 rw [h,List.drop_eq_getElem_cons hk]
 show nx ++ ((if !b && _ then [r] else []) ++ (_ ++ _)) = _
 simp only [List.append_assoc]
theorem PutS.fin {r:RwW} {rs nx:List RwW} {b:Bool} {k:Nat} (h:PutS r rs nx b k) (hk:rs.length ≤ k):putG RwW.Node r false rs = nx ++ (if b then [] else [r]):=by
 unfold PutS at h
 rw [h,List.drop_eq_nil_of_le hk]
 rfl
theorem AllO.putG {w:World} {r:RwW} {x:RwP} (hx:RwIn w r x):∀ (d:Bool) {rs:List RwW} {xs:List RwP},AllO RwIn w rs xs → AllO RwIn w (putG RwW.Node r d rs) (putG RwP.Node x d xs)
 | d,[],[],h=>by
  unfold Go.Proofs.YthehiobacjjakaaGreatDoor.putG
  split
  ·exact AllO.nil
  ·exact AllO.cons hx AllO.nil
 | d,[],_ :: _,h=>by have:=h.1;simp at this
 | d,_ :: _,[],h=>by have:=h.1;simp at this
 | d,a :: rs,b :: xs,h=>by
  obtain ⟨h1,h2⟩:=h.tail
  unfold Go.Proofs.YthehiobacjjakaaGreatDoor.putG
  rw [hx.node,h1.node]
  refine AllO.app ?_ (AllO.app ?_ (AllO.putG hx _ h2))
  ·split
   ·exact AllO.cons hx AllO.nil
   ·exact AllO.nil
  ·split
   ·exact AllO.nil
   ·exact AllO.cons h1 AllO.nil
def RpTo (w:World) (ls:List RwW) (e:Ending) (w':World):Prop:=∃ (A:Option Addr) (c:Nat),e = .returned (.slice A ls.length c) ∧ OwnC codR w w' A c ls ∧ Fr noB w w'
def RpI (w:World) (r:RwW) (rs:List RwW) (gk:Nat) (nv dv kv:Value) (wr:World):Prop :=
 ∃ (k:Nat) (b:Bool) (A:Option Addr) (c:Nat) (nx:List RwW),kv = .int .i64 (k:Int) ∧ dv = .bool b ∧ nv = .slice A nx.length c ∧ gk = rs.length - k ∧ k ≤ rs.length ∧ OwnC codR w wr A c nx ∧ PutS r rs nx b k ∧ nx.length ≤ 2 * k ∧ Fr noB w wr
set_option maxRecDepth 100000 in
set_option maxHeartbeats 4000000 in
theorem rput_any (w:World) (A:Option Addr) (c n:Nat) (rs:List RwW) (hn:rs.length = n) (hs:Sl w A (codR.row rs)) (hb:rs.length ≤ 1000000) (r:RwW) :
  Calls Tryz.prog 34 #[.slice A n c,.agg (codR.A r)] w (RpTo w (putG RwW.Node r false rs)):=by
 subst hn
 have f0:Fr noB w (w.alloc (.cells (codR.A r) 60)):=(Fr.refl noB w).alloc _
 have q0:=Cod.rd_new (C:=codR) w 60 r
 have HS:=Lib.hid (hs.fr0 f0)
 have HB:=Lib.hid hb
 clear hs hb
 go_enter Tryz.func34,Tryz.ntmps34
 go_upto_region 1 with fail
 generalize w.alloc (.cells (codR.A r) 60) = w0 at f0 q0 HS ⊢
 generalize w.heap.size = P at q0 ⊢
 have F0:=Lib.hid f0
 have Q0:=Lib.hid q0
 clear f0 q0
 have fa:Fr noB w0 (w0.alloc (.cells #[] 60)):=(Fr.refl noB w0).alloc _
 have own0:OwnC codR w0 (w0.alloc (.cells #[] 60)) (some ⟨w0.heap.size,0,none⟩) 0 []:=World.ownsRow_lit (base:=w0.heap.size) (e:=60) (size:=8) w0 #[] 0 (Nat.le_refl _) (by unfold maxLen;omega) (by simp)
 have I0:=Lib.hid (show RpI w0 r rs rs.length (.slice (some ⟨w0.heap.size,0,none⟩) 0 0) (.bool false) (.int .i64 ((0:Nat):Int)) (w0.alloc (.cells #[] 60)) from ⟨0,false,_,0,[],rfl,rfl,rfl,rfl,Nat.zero_le _,own0,by simp [PutS],by simp,fa⟩)
 clear fa own0
 go_wp2_with fail
 go_loopg [5,6,7] rs.length (fun gk nv dv kv wz=>RpI w0 r rs gk nv dv kv wz)
 case atStart=>exact I0.out
 case round =>
  clear I0
  obtain ⟨k,b,A9,c9,nx,rfl,rfl,rfl,rfl,hk,ho,hins,hnl,hfr⟩:=hrel
  have HO:=Lib.hid ho
  have HI:=Lib.hid hins
  have HNL:=Lib.hid hnl
  have HFR:=Lib.hid hfr
  clear ho hins hnl hfr
  by_cases hlt:k < rs.length
  ·have j1:(k:Int) < (rs.length:Int):=by omega
   have j0:(0:Int) ≤ (k:Int):=by omega
   obtain ⟨g,off,rfl,hg⟩:=HS.out.adC (by omega)
   have ro:codR.rd w0 g (off + k * 8) = some rs[k]:=HS.out.rd k hlt
   have HST:=Lib.hid (HI.out.step hlt)
   generalize hy:rs[k] = y at ro HST
   have HLT:=Lib.hid hlt
   have RO:=Lib.hid ro
   have wk:wrap64 ((k:Int) + 1) = (k:Int) + 1:=IntWalk.wrap64_in _ (by have:=HB.out;omega)
   clear hlt hk hg hy ro
   have CM:=Lib.hid (fun w'=>r3cmp_any w' y.Node r.Node)
   cases b with
   | true =>
    have hF0:(fun w':World=>codS.rd w' g (off + k * 8) = some y.Node ∧ codS.rd w' P 0 = some r.Node) wr.drew:=⟨Cod.rd_fr0 (rwAtO (Cod.rd_fr0 RO.out HFR.out)).node (Fr.refl noB _).drew,Cod.rd_fr0 (rwAt (Cod.rd_fr0 Q0.out HFR.out)).node (Fr.refl noB _).drew⟩
    have hst:=HST.out
    simp only [Bool.not_true,Bool.false_and,Bool.true_or,if_false,List.nil_append,Bool.false_eq_true] at hst
    have HST2:=Lib.hid hst
    clear hst
    go_upto_region 6 with fail
    refine wp_region_M 12 13 [⟨32768,64,0⟩,⟨65536,32768,1⟩,⟨131072,65536,2⟩,⟨262144,131073,4⟩,⟨524288,131200,4⟩,⟨1048576,917504,28⟩,⟨2097152,1179648,36⟩,⟨4194304,2228224,68⟩,⟨8388608,131080,4⟩,⟨16777216,8519680,260⟩,⟨33554432,21102592,644⟩,⟨67108864,33685504,1028⟩,⟨134217728,67239936,2052⟩] [(true,0),(true,1),(true,2),(true,3),(true,4),(true,5),(true,6),(true,7),(true,8),(true,9),(false,10),(true,11)] (fun w'=>codS.rd w' g (off + k * 8) = some y.Node ∧ codS.rd w' P 0 = some r.Node) (by kernel_rfl) rfl (by kernel_rfl) (by kernel_rfl) (by kernel_rfl) hF0 (fun hA hF=>?_)
    iterate 3
     refine wpAnyS_take (v:=?_) hA rfl (fun _ _ _ h=>h) (Or.inl ⟨by rfl,?_⟩) hF (fun hA=>?_)
     rotate_left
     ·intro wS hSw;(try dsimp only at hSw);obtain ⟨s1,s2⟩:=hSw;first | (apply Eq.trans;apply ex_ldR_at;exact rfl;exact rfl;assumption;with_reducible rfl) | (apply Eq.trans;apply ex_ldS_at;exact rfl;exact rfl;assumption;with_reducible rfl) | (go_simp;try with_reducible rfl)
     try simp only [sA1,sA2,sA3,Act.put,sA4,sA5,sA6]
    iterate 7
     refine wpAnyS_take (v:=undef) hA rfl (fun _ _ _ h=>h) (Or.inr ⟨by rfl,rfl⟩) hF (fun hA=>?_)
     try simp only [sA1,sA2,sA3,Act.put,sA4,sA5,sA6]
    refine wpAnyS_one hA rfl (fun K' hK=>?_)
    rw [if_neg (by intro h;exact Bool.false_ne_true h)]
    refine hK.out _ _ hF (fun hA=>?_)
    clear hK K'
    try simp only [sA1,sA2,sA3,Act.put,sA4,sA5,sA6]
    refine wpAnyS_take (v:=undef) hA rfl (fun _ _ _ h=>h) (Or.inr ⟨by rfl,rfl⟩) hF (fun hA=>?_)
    try simp only [sA1,sA2,sA3,Act.put,sA4,sA5,sA6]
    refine wpAnyS_end hA rfl ?_
    simp only [List.drop_succ_cons,List.drop_zero]
    clear hF hF0
    go_upto_region 9 with fail
    have HN1:=HST2.out
    have ho1:=own_new0 HO.out (Fr.refl noB wr).drew
    have FV1:=HFR.out.step0 (Fr.refl noB wr).drew
    have hl1:=Lib.hid (show nx.length ≤ 2 * k + 1 by have:=HNL.out;omega)
    generalize wr.drew = wv at ho1 FV1 ⊢
    obtain ⟨A1,c1,nx1,rfl,rfl,rfl⟩:∃ A1 c1 nx1,A1 = A9 ∧ c1 = c9 ∧ nx1 = nx:=⟨_,_,_,rfl,rfl,rfl⟩
    have TN:=Lib.hid (rwAtO (Cod.rd_fr0 RO.out FV1)).node
    have TY:=Lib.hid (Cod.rd_fr0 RO.out FV1)
    have TP:=Lib.hid (rwAt (Cod.rd_fr0 Q0.out FV1)).node
    have fdz:Fr noB wv wv.drew:=(Fr.refl noB _).drew
    have hF9:(fun w':World=>codS.rd w' g (off + k * 8) = some y.Node ∧ codS.rd w' P 0 = some r.Node) wv.drew:=⟨Cod.rd_fr0 TN.out fdz,Cod.rd_fr0 TP.out fdz⟩
    have FZ:=Lib.hid (FV1.step0 fdz)
    have HZO:=Lib.hid (own_new0 ho1 fdz)
    have HY9:=Lib.hid (Cod.rd_fr0 TY.out fdz)
    clear fdz
    by_cases he:y.Node = r.Node
    ·rw [if_pos he] at HN1
     have HN1:=Lib.hid HN1
     generalize hnd:y.Node = nd at hF9 he
     subst he
     refine wp_region_M 7 8 [⟨4294967296,1,0⟩,⟨8589934592,128,0⟩,⟨17179869184,12884901888,3⟩,⟨34359738368,17179869184,4⟩,⟨68719476736,34359738368,8⟩,⟨137438953472,8,0⟩,⟨274877906944,137438953472,32⟩,⟨549755813888,343597383680,80⟩] [(true,0),(true,1),(true,2),(true,3),(true,4),(true,5),(true,6)] (fun w'=>codS.rd w' g (off + k * 8) = some r.Node ∧ codS.rd w' P 0 = some r.Node) (by kernel_rfl) rfl (by kernel_rfl) (by kernel_rfl) (by kernel_rfl) hF9 (fun hA hF=>?_)
     iterate 7
      refine wpAnyS_take (v:=?_) hA rfl (fun _ _ _ h=>h) (Or.inl ⟨by rfl,?_⟩) hF (fun hA=>?_)
      rotate_left
      ·intro wS hSw;(try dsimp only at hSw);obtain ⟨s1,s2⟩:=hSw;first | (apply Eq.trans;apply ex_ldR_at;exact rfl;exact rfl;assumption;with_reducible rfl) | (apply Eq.trans;apply ex_ldS_at;exact rfl;exact rfl;assumption;with_reducible rfl) | (go_simp;try with_reducible rfl)
      try simp only [sA1,sA2,sA3,Act.put,sA4,sA5,sA6]
     refine wpAnyS_end hA rfl ?_
     simp only [List.drop_succ_cons,List.drop_zero]
     clear hF hF9
     go_wp2_with fail
     go_roundg (rs.length - (k + 1))
     case measure=>have:=HLT.out;omega
     case rel=>exact ⟨k + 1,true,A1,c1,nx1,by first | exact congrArg (Value.int .i64) wk | simp,rfl,rfl,rfl,by have:=HLT.out;omega,HZO.out,by have h:=HN1.out;rw [List.append_nil] at h;exact h,by have:=hl1.out;omega,FZ.out⟩
    ·rw [if_neg he] at HN1
     have HN1:=Lib.hid HN1
     refine wp_region_M 7 8 [⟨4294967296,1,0⟩,⟨8589934592,128,0⟩,⟨17179869184,12884901888,3⟩,⟨34359738368,17179869184,4⟩,⟨68719476736,34359738368,8⟩,⟨137438953472,8,0⟩,⟨274877906944,137438953472,32⟩,⟨549755813888,343597383680,80⟩] [(true,0),(true,1),(true,2),(true,3),(true,4),(true,5),(true,6)] (fun w'=>codS.rd w' g (off + k * 8) = some y.Node ∧ codS.rd w' P 0 = some r.Node) (by kernel_rfl) rfl (by kernel_rfl) (by kernel_rfl) (by kernel_rfl) hF9 (fun hA hF=>?_)
     iterate 7
      refine wpAnyS_take (v:=?_) hA rfl (fun _ _ _ h=>h) (Or.inl ⟨by rfl,?_⟩) hF (fun hA=>?_)
      rotate_left
      ·intro wS hSw;(try dsimp only at hSw);obtain ⟨s1,s2⟩:=hSw;first | (apply Eq.trans;apply ex_ldR_at;exact rfl;exact rfl;assumption;with_reducible rfl) | (apply Eq.trans;apply ex_ldS_at;exact rfl;exact rfl;assumption;with_reducible rfl) | (go_simp;try with_reducible rfl)
      try simp only [sA1,sA2,sA3,Act.put,sA4,sA5,sA6]
     refine wpAnyS_end hA rfl ?_
     simp only [List.drop_succ_cons,List.drop_zero]
     clear hF hF9
     have qy:=HY9.out
     generalize wv.drew = wd at qy FZ HZO ⊢
     have hsy:=Cod.sl_new (C:=codR) wd [y]
     have fny:Fr noB wd (wd.alloc (codR.ro [y])):=(Fr.refl noB wd).alloc _
     have hoy:=Lib.hid (own_new0 HZO.out fny)
     have szy:=(FZ.out.step0 fny).size
     have FY:=Lib.hid (FZ.out.step0 fny)
     clear fny
     go_wp2_with (at_builtin;refine wpList_appC' etR w0 _ rfl _ _ rfl A1 nx1.length c1 nx1 rfl rfl hoy.out (some ⟨wd.heap.size,0,none⟩) 1 1 [y] rfl hsy rfl (by have:=hl1.out;have:=HB.out;have:=HLT.out;simp;omega) szy ?_;intro A8 c8 w8 hc8 hmx8 ho8 hg8 hA8)
     have F8:=Fr.own' FY.out hoy.out hg8
     go_roundg (rs.length - (k + 1))
     case measure=>have:=HLT.out;omega
     case rel=>exact ⟨k + 1,true,A8,c8,nx1 ++ [y],by first | exact congrArg (Value.int .i64) wk | simp,rfl,by first | rfl | simp,rfl,by have:=HLT.out;omega,ho8,HN1.out,by have:=hl1.out;simp;omega,F8⟩
   | false =>
    have hF0:(fun w':World=>codS.rd w' g (off + k * 8) = some y.Node ∧ codS.rd w' P 0 = some r.Node) wr.drew:=⟨Cod.rd_fr0 (rwAtO (Cod.rd_fr0 RO.out HFR.out)).node (Fr.refl noB _).drew,Cod.rd_fr0 (rwAt (Cod.rd_fr0 Q0.out HFR.out)).node (Fr.refl noB _).drew⟩
    go_upto_region 6 with fail
    obtain ⟨z,hz⟩:∃ z,z = cmpS y.Node r.Node:=⟨_,rfl⟩
    have hst:=HST.out
    have CM1:=CM.out wr.drew
    rw [← hz] at hst CM1
    have CM1:=Lib.hid CM1
    clear hz
    refine wp_region_M 12 13 [⟨32768,64,0⟩,⟨65536,32768,1⟩,⟨131072,65536,2⟩,⟨262144,131073,4⟩,⟨524288,131200,4⟩,⟨1048576,917504,28⟩,⟨2097152,1179648,36⟩,⟨4194304,2228224,68⟩,⟨8388608,131080,4⟩,⟨16777216,8519680,260⟩,⟨33554432,21102592,644⟩,⟨67108864,33685504,1028⟩,⟨134217728,67239936,2052⟩] [(true,0),(true,1),(true,2),(true,3),(true,4),(true,5),(true,6),(true,7),(true,8),(true,9),(false,10),(true,11)] (fun w'=>codS.rd w' g (off + k * 8) = some y.Node ∧ codS.rd w' P 0 = some r.Node) (by kernel_rfl) rfl (by kernel_rfl) (by kernel_rfl) (by kernel_rfl) hF0 (fun hA hF=>?_)
    iterate 10
     refine wpAnyS_take (v:=?_) hA rfl (fun _ _ _ h=>h) (Or.inl ⟨by rfl,?_⟩) hF (fun hA=>?_)
     rotate_left
     ·intro wS hSw;(try dsimp only at hSw);obtain ⟨s1,s2⟩:=hSw;first | (apply Eq.trans;apply ex_ldR_at;exact rfl;exact rfl;assumption;with_reducible rfl) | (apply Eq.trans;apply ex_ldS_at;exact rfl;exact rfl;assumption;with_reducible rfl) | (go_simp;try with_reducible rfl)
     try simp only [sA1,sA2,sA3,Act.put,sA4,sA5,sA6]
    refine wpAnyS_one hA rfl (fun K' hK=>?_)
    rw [if_pos (by rfl)]
    go_simp
    go_at_call 50
    refine CM1.out.mono ?_
    rintro e w5 ⟨rfl,f5⟩
    replace hF:=(⟨Cod.rd_fr0 hF.1 f5,Cod.rd_fr0 hF.2 f5⟩:codS.rd w5 g (off + k * 8) = some y.Node ∧ codS.rd w5 P 0 = some r.Node)
    refine hK.out _ _ hF (fun hA=>?_)
    clear hK K'
    try simp only [sA1,sA2,sA3,Act.put,sA4,sA5,sA6]
    have F5:=Lib.hid (HFR.out.step0 ((Fr.refl noB wr).drew.step0 f5))
    have HO5:=Lib.hid (own_new0 HO.out ((Fr.refl noB wr).drew.step0 f5))
    clear hF0
    by_cases hc:0 ≤ z
    ·rw [decide_eq_true hc] at hst
     simp only [Bool.not_false,Bool.true_and,Bool.false_or,if_true] at hst
     have HST2:=Lib.hid hst
     clear hst
     refine wpAnyS_take (v:=?_) hA rfl (fun _ _ _ h=>h) (Or.inl ⟨by rfl,?_⟩) hF (fun hA=>?_)
     rotate_left
     ·intro wS hSw;(try dsimp only at hSw);obtain ⟨s1,s2⟩:=hSw;first | (apply Eq.trans;apply ex_ldR_at;exact rfl;exact rfl;assumption;with_reducible rfl) | (apply Eq.trans;apply ex_ldS_at;exact rfl;exact rfl;assumption;with_reducible rfl) | (go_simp;try with_reducible rfl)
     try simp only [sA1,sA2,sA3,Act.put,sA4,sA5,sA6]
     refine wpAnyS_end hA rfl ?_
     simp only [List.drop_succ_cons,List.drop_zero]
     clear hF hc
     have qx:=Cod.rd_fr0 Q0.out F5.out
     have hsx:=Cod.sl_new (C:=codR) w5 [r]
     have fnx:Fr noB w5 (w5.alloc (codR.ro [r])):=(Fr.refl noB w5).alloc _
     have hox:=Lib.hid (own_new0 HO5.out fnx)
     have szx:=(F5.out.step0 fnx).size
     have FX:=Lib.hid (F5.out.step0 fnx)
     clear fnx
     go_upto_region 9 with (at_builtin;refine wpList_appC' etR w0 _ rfl _ _ rfl A9 nx.length c9 nx rfl rfl hox.out (some ⟨w5.heap.size,0,none⟩) 1 1 [r] rfl hsx rfl (by have:=HNL.out;have:=HB.out;have:=HLT.out;simp;omega) szx ?_;intro A1 c1 wv hc1 hmx1 ho1 hg1 hA1;obtain ⟨nx1,hnx⟩:∃ n1:List RwW,n1 = nx ++ [r]:=⟨_,rfl⟩;rw [← hnx] at ho1 ⊢;have HNX:=Lib.hid hnx;clear hnx hc1 hmx1)
     have FV1:=Fr.own' FX.out hox.out hg1
     have hl1:=Lib.hid (show nx1.length ≤ 2 * k + 1 by rw [HNX.out];have:=HNL.out;simp;omega)
     have HN1:=HST2.out
     rw [← List.append_assoc,← HNX.out] at HN1
     clear hg1 hA1 qx
     have TN:=Lib.hid (rwAtO (Cod.rd_fr0 RO.out FV1)).node
     have TY:=Lib.hid (Cod.rd_fr0 RO.out FV1)
     have TP:=Lib.hid (rwAt (Cod.rd_fr0 Q0.out FV1)).node
     have fdz:Fr noB wv wv.drew:=(Fr.refl noB _).drew
     have hF9:(fun w':World=>codS.rd w' g (off + k * 8) = some y.Node ∧ codS.rd w' P 0 = some r.Node) wv.drew:=⟨Cod.rd_fr0 TN.out fdz,Cod.rd_fr0 TP.out fdz⟩
     have FZ:=Lib.hid (FV1.step0 fdz)
     have HZO:=Lib.hid (own_new0 ho1 fdz)
     have HY9:=Lib.hid (Cod.rd_fr0 TY.out fdz)
     clear fdz
     by_cases he:y.Node = r.Node
     ·rw [if_pos he] at HN1
      have HN1:=Lib.hid HN1
      generalize hnd:y.Node = nd at hF9 he
      subst he
      refine wp_region_M 7 8 [⟨4294967296,1,0⟩,⟨8589934592,128,0⟩,⟨17179869184,12884901888,3⟩,⟨34359738368,17179869184,4⟩,⟨68719476736,34359738368,8⟩,⟨137438953472,8,0⟩,⟨274877906944,137438953472,32⟩,⟨549755813888,343597383680,80⟩] [(true,0),(true,1),(true,2),(true,3),(true,4),(true,5),(true,6)] (fun w'=>codS.rd w' g (off + k * 8) = some r.Node ∧ codS.rd w' P 0 = some r.Node) (by kernel_rfl) rfl (by kernel_rfl) (by kernel_rfl) (by kernel_rfl) hF9 (fun hA hF=>?_)
      iterate 7
       refine wpAnyS_take (v:=?_) hA rfl (fun _ _ _ h=>h) (Or.inl ⟨by rfl,?_⟩) hF (fun hA=>?_)
       rotate_left
       ·intro wS hSw;(try dsimp only at hSw);obtain ⟨s1,s2⟩:=hSw;first | (apply Eq.trans;apply ex_ldR_at;exact rfl;exact rfl;assumption;with_reducible rfl) | (apply Eq.trans;apply ex_ldS_at;exact rfl;exact rfl;assumption;with_reducible rfl) | (go_simp;try with_reducible rfl)
       try simp only [sA1,sA2,sA3,Act.put,sA4,sA5,sA6]
      refine wpAnyS_end hA rfl ?_
      simp only [List.drop_succ_cons,List.drop_zero]
      clear hF hF9
      go_wp2_with fail
      go_roundg (rs.length - (k + 1))
      case measure=>have:=HLT.out;omega
      case rel=>exact ⟨k + 1,true,A1,c1,nx1,by first | exact congrArg (Value.int .i64) wk | simp,rfl,rfl,rfl,by have:=HLT.out;omega,HZO.out,by have h:=HN1.out;rw [List.append_nil] at h;exact h,by have:=hl1.out;omega,FZ.out⟩
     ·rw [if_neg he] at HN1
      have HN1:=Lib.hid HN1
      refine wp_region_M 7 8 [⟨4294967296,1,0⟩,⟨8589934592,128,0⟩,⟨17179869184,12884901888,3⟩,⟨34359738368,17179869184,4⟩,⟨68719476736,34359738368,8⟩,⟨137438953472,8,0⟩,⟨274877906944,137438953472,32⟩,⟨549755813888,343597383680,80⟩] [(true,0),(true,1),(true,2),(true,3),(true,4),(true,5),(true,6)] (fun w'=>codS.rd w' g (off + k * 8) = some y.Node ∧ codS.rd w' P 0 = some r.Node) (by kernel_rfl) rfl (by kernel_rfl) (by kernel_rfl) (by kernel_rfl) hF9 (fun hA hF=>?_)
      iterate 7
       refine wpAnyS_take (v:=?_) hA rfl (fun _ _ _ h=>h) (Or.inl ⟨by rfl,?_⟩) hF (fun hA=>?_)
       rotate_left
       ·intro wS hSw;(try dsimp only at hSw);obtain ⟨s1,s2⟩:=hSw;first | (apply Eq.trans;apply ex_ldR_at;exact rfl;exact rfl;assumption;with_reducible rfl) | (apply Eq.trans;apply ex_ldS_at;exact rfl;exact rfl;assumption;with_reducible rfl) | (go_simp;try with_reducible rfl)
       try simp only [sA1,sA2,sA3,Act.put,sA4,sA5,sA6]
      refine wpAnyS_end hA rfl ?_
      simp only [List.drop_succ_cons,List.drop_zero]
      clear hF hF9
      have qy:=HY9.out
      generalize wv.drew = wd at qy FZ HZO ⊢
      have hsy:=Cod.sl_new (C:=codR) wd [y]
      have fny:Fr noB wd (wd.alloc (codR.ro [y])):=(Fr.refl noB wd).alloc _
      have hoy:=Lib.hid (own_new0 HZO.out fny)
      have szy:=(FZ.out.step0 fny).size
      have FY:=Lib.hid (FZ.out.step0 fny)
      clear fny
      go_wp2_with (at_builtin;refine wpList_appC' etR w0 _ rfl _ _ rfl A1 nx1.length c1 nx1 rfl rfl hoy.out (some ⟨wd.heap.size,0,none⟩) 1 1 [y] rfl hsy rfl (by have:=hl1.out;have:=HB.out;have:=HLT.out;simp;omega) szy ?_;intro A8 c8 w8 hc8 hmx8 ho8 hg8 hA8)
      have F8:=Fr.own' FY.out hoy.out hg8
      go_roundg (rs.length - (k + 1))
      case measure=>have:=HLT.out;omega
      case rel=>exact ⟨k + 1,true,A8,c8,nx1 ++ [y],by first | exact congrArg (Value.int .i64) wk | simp,rfl,by first | rfl | simp,rfl,by have:=HLT.out;omega,ho8,HN1.out,by have:=hl1.out;simp;omega,F8⟩
    ·rw [decide_eq_false hc] at hst
     simp only [Bool.not_false,Bool.true_and,Bool.or_false,if_false,List.nil_append,Bool.false_eq_true] at hst
     have HST2:=Lib.hid hst
     clear hst
     refine wpAnyS_take (v:=?_) hA rfl (fun _ _ _ h=>h) (Or.inl ⟨by rfl,?_⟩) hF (fun hA=>?_)
     rotate_left
     ·intro wS hSw;(try dsimp only at hSw);obtain ⟨s1,s2⟩:=hSw;first | (apply Eq.trans;apply ex_ldR_at;exact rfl;exact rfl;assumption;with_reducible rfl) | (apply Eq.trans;apply ex_ldS_at;exact rfl;exact rfl;assumption;with_reducible rfl) | (go_simp;try with_reducible rfl)
     try simp only [sA1,sA2,sA3,Act.put,sA4,sA5,sA6]
     refine wpAnyS_end hA rfl ?_
     simp only [List.drop_succ_cons,List.drop_zero]
     clear hF hc
     go_upto_region 9 with fail
     have HN1:=HST2.out
     have ho1:=HO5.out
     have FV1:=F5.out
     have hl1:=Lib.hid (show nx.length ≤ 2 * k + 1 by have:=HNL.out;omega)
     obtain ⟨wv,rfl⟩:∃ q,q = w5:=⟨_,rfl⟩
     obtain ⟨A1,c1,nx1,rfl,rfl,rfl⟩:∃ A1 c1 nx1,A1 = A9 ∧ c1 = c9 ∧ nx1 = nx:=⟨_,_,_,rfl,rfl,rfl⟩
     have TN:=Lib.hid (rwAtO (Cod.rd_fr0 RO.out FV1)).node
     have TY:=Lib.hid (Cod.rd_fr0 RO.out FV1)
     have TP:=Lib.hid (rwAt (Cod.rd_fr0 Q0.out FV1)).node
     have fdz:Fr noB wv wv.drew:=(Fr.refl noB _).drew
     have hF9:(fun w':World=>codS.rd w' g (off + k * 8) = some y.Node ∧ codS.rd w' P 0 = some r.Node) wv.drew:=⟨Cod.rd_fr0 TN.out fdz,Cod.rd_fr0 TP.out fdz⟩
     have FZ:=Lib.hid (FV1.step0 fdz)
     have HZO:=Lib.hid (own_new0 ho1 fdz)
     have HY9:=Lib.hid (Cod.rd_fr0 TY.out fdz)
     clear fdz
     by_cases he:y.Node = r.Node
     ·rw [if_pos he] at HN1
      have HN1:=Lib.hid HN1
      generalize hnd:y.Node = nd at hF9 he
      subst he
      refine wp_region_M 7 8 [⟨4294967296,1,0⟩,⟨8589934592,128,0⟩,⟨17179869184,12884901888,3⟩,⟨34359738368,17179869184,4⟩,⟨68719476736,34359738368,8⟩,⟨137438953472,8,0⟩,⟨274877906944,137438953472,32⟩,⟨549755813888,343597383680,80⟩] [(true,0),(true,1),(true,2),(true,3),(true,4),(true,5),(true,6)] (fun w'=>codS.rd w' g (off + k * 8) = some r.Node ∧ codS.rd w' P 0 = some r.Node) (by kernel_rfl) rfl (by kernel_rfl) (by kernel_rfl) (by kernel_rfl) hF9 (fun hA hF=>?_)
      iterate 7
       refine wpAnyS_take (v:=?_) hA rfl (fun _ _ _ h=>h) (Or.inl ⟨by rfl,?_⟩) hF (fun hA=>?_)
       rotate_left
       ·intro wS hSw;(try dsimp only at hSw);obtain ⟨s1,s2⟩:=hSw;first | (apply Eq.trans;apply ex_ldR_at;exact rfl;exact rfl;assumption;with_reducible rfl) | (apply Eq.trans;apply ex_ldS_at;exact rfl;exact rfl;assumption;with_reducible rfl) | (go_simp;try with_reducible rfl)
       try simp only [sA1,sA2,sA3,Act.put,sA4,sA5,sA6]
      refine wpAnyS_end hA rfl ?_
      simp only [List.drop_succ_cons,List.drop_zero]
      clear hF hF9
      go_wp2_with fail
      go_roundg (rs.length - (k + 1))
      case measure=>have:=HLT.out;omega
      case rel=>exact ⟨k + 1,false,A1,c1,nx1,by first | exact congrArg (Value.int .i64) wk | simp,rfl,rfl,rfl,by have:=HLT.out;omega,HZO.out,by have h:=HN1.out;rw [List.append_nil] at h;exact h,by have:=hl1.out;omega,FZ.out⟩
     ·rw [if_neg he] at HN1
      have HN1:=Lib.hid HN1
      refine wp_region_M 7 8 [⟨4294967296,1,0⟩,⟨8589934592,128,0⟩,⟨17179869184,12884901888,3⟩,⟨34359738368,17179869184,4⟩,⟨68719476736,34359738368,8⟩,⟨137438953472,8,0⟩,⟨274877906944,137438953472,32⟩,⟨549755813888,343597383680,80⟩] [(true,0),(true,1),(true,2),(true,3),(true,4),(true,5),(true,6)] (fun w'=>codS.rd w' g (off + k * 8) = some y.Node ∧ codS.rd w' P 0 = some r.Node) (by kernel_rfl) rfl (by kernel_rfl) (by kernel_rfl) (by kernel_rfl) hF9 (fun hA hF=>?_)
      iterate 7
       refine wpAnyS_take (v:=?_) hA rfl (fun _ _ _ h=>h) (Or.inl ⟨by rfl,?_⟩) hF (fun hA=>?_)
       rotate_left
       ·intro wS hSw;(try dsimp only at hSw);obtain ⟨s1,s2⟩:=hSw;first | (apply Eq.trans;apply ex_ldR_at;exact rfl;exact rfl;assumption;with_reducible rfl) | (apply Eq.trans;apply ex_ldS_at;exact rfl;exact rfl;assumption;with_reducible rfl) | (go_simp;try with_reducible rfl)
       try simp only [sA1,sA2,sA3,Act.put,sA4,sA5,sA6]
      refine wpAnyS_end hA rfl ?_
      simp only [List.drop_succ_cons,List.drop_zero]
      clear hF hF9
      have qy:=HY9.out
      generalize wv.drew = wd at qy FZ HZO ⊢
      have hsy:=Cod.sl_new (C:=codR) wd [y]
      have fny:Fr noB wd (wd.alloc (codR.ro [y])):=(Fr.refl noB wd).alloc _
      have hoy:=Lib.hid (own_new0 HZO.out fny)
      have szy:=(FZ.out.step0 fny).size
      have FY:=Lib.hid (FZ.out.step0 fny)
      clear fny
      go_wp2_with (at_builtin;refine wpList_appC' etR w0 _ rfl _ _ rfl A1 nx1.length c1 nx1 rfl rfl hoy.out (some ⟨wd.heap.size,0,none⟩) 1 1 [y] rfl hsy rfl (by have:=hl1.out;have:=HB.out;have:=HLT.out;simp;omega) szy ?_;intro A8 c8 w8 hc8 hmx8 ho8 hg8 hA8)
      have F8:=Fr.own' FY.out hoy.out hg8
      go_roundg (rs.length - (k + 1))
      case measure=>have:=HLT.out;omega
      case rel=>exact ⟨k + 1,false,A8,c8,nx1 ++ [y],by first | exact congrArg (Value.int .i64) wk | simp,rfl,by first | rfl | simp,rfl,by have:=HLT.out;omega,ho8,HN1.out,by have:=hl1.out;simp;omega,F8⟩
  ·have j1:¬ (k:Int) < (rs.length:Int):=by omega
   have HFN:=Lib.hid (HI.out.fin (by omega))
   have HKK:=Lib.hid (show k ≤ rs.length from hk)
   clear hlt hk
   cases b with
   | true =>
    have HN1:=Lib.hid (show putG RwW.Node r false rs = nx by have:=HFN.out;rw [if_pos rfl,List.append_nil] at this;exact this)
    have ho1:=HO.out
    have FV1:=HFR.out
    obtain ⟨wv,rfl⟩:∃ q,q = wr:=⟨_,rfl⟩
    obtain ⟨A1,c1,nx1,rfl,rfl,rfl⟩:∃ A1 c1 nx1,A1 = A9 ∧ c1 = c9 ∧ nx1 = nx:=⟨_,_,_,rfl,rfl,rfl⟩
    go_wp2_with fail
    go_ret
    exact ⟨A1,c1,by rw [HN1.out];rfl,by rw [HN1.out];exact own_base ho1 F0.out.size,F0.out.step0 FV1⟩
   | false =>
    have qx:=Cod.rd_fr0 Q0.out HFR.out
    have hsx:=Cod.sl_new (C:=codR) wr [r]
    have fnx:Fr noB wr (wr.alloc (codR.ro [r])):=(Fr.refl noB wr).alloc _
    have hox:=Lib.hid (own_new0 HO.out fnx)
    have szx:=(HFR.out.step0 fnx).size
    have FX:=Lib.hid (HFR.out.step0 fnx)
    clear fnx
    go_upto_region 13 with (at_builtin;refine wpList_appC' etR w0 _ rfl _ _ rfl A9 nx.length c9 nx rfl rfl hox.out (some ⟨wr.heap.size,0,none⟩) 1 1 [r] rfl hsx rfl (by have:=HNL.out;have:=HB.out;have:=HKK.out;simp;omega) szx ?_;intro A1 c1 wv hc1 hmx1 ho1 hg1 hA1;obtain ⟨nx1,hnx⟩:∃ n1:List RwW,n1 = nx ++ [r]:=⟨_,rfl⟩;rw [← hnx] at ho1 ⊢;have HNX:=Lib.hid hnx;clear hnx hc1 hmx1)
    have FV1:=Fr.own' FX.out hox.out hg1
    have HN1:=Lib.hid (show putG RwW.Node r false rs = nx1 by rw [HNX.out];have:=HFN.out;rw [if_neg (by simp)] at this;exact this)
    clear hg1 hA1 qx
    go_wp2_with fail
    go_ret
    exact ⟨A1,c1,by rw [HN1.out];rfl,by rw [HN1.out];exact own_base ho1 F0.out.size,F0.out.step0 FV1⟩
end Go.Proofs.YthehiobacjjakaaGreatDoor
