/- snap.Load: what it answers. (ex_ldS_at, ex_ldT_at, ex_ld_id) -/
import Derived.Test.YtnkdnbjmhoegkaaGreatLdCKq
import Derived.Test.YtnkdnbjmhoegkaaGreatSrtSKq
set_option linter.unusedVariables false
set_option linter.unusedSimpArgs false
namespace Go.Proofs.YtnkdnbjmhoegkaaGreat
open Go.RowKit Go.Maps Go.Sort
theorem ldunder_any (W:World) (X L M:Nat) (o:List (List UInt8)) (hlen:o.length ≤ 1000000000):∀ j,UndC W X L M o j
 | 0=>ldunder_of W X L M o 0 (fun k h=>by cases h)
 | j + 1=>ldunder_of W X L M o (j + 1) (fun k h=>by injection h with h;subst h;exact ldsub_of W X L M o hlen j (ldunder_any W X L M o hlen j))
theorem ldsub_any (W:World) (X L M:Nat) (o:List (List UInt8)) (hlen:o.length ≤ 1000000000) (j:Nat):SubC W X L M o j:=ldsub_of W X L M o hlen j (ldunder_any W X L M o hlen j)
theorem rise_uniqZ {xs ys:List RwP} (h:ys.Perm xs) (h1:ys.Pairwise fun a b=>cmpS a.Node b.Node < 0) (h2:xs.Pairwise fun a b=>cmpS a.Node b.Node < 0):ys = xs:=by
 refine h.eq_of_pairwise (le:=fun a b:RwP=>cmpS a.Node b.Node < 0) (fun a b _ _ hab hba=>?_) h1 h2
 have:=cmpS_flip a.Node b.Node
 omega
theorem perm_zip {α β:Type}:∀ {l l':List α},l'.Perm l → ∀ (m:List β),l.length = m.length → ∃ m':List β,m'.Perm m ∧ l'.length = m'.length ∧ ∀ p,p ∈ l'.zip m' → p ∈ l.zip m:=by
 intro l l' h
 induction h with
 | nil=>intro m hm;exact ⟨m,.refl _,hm,fun p hp=>hp⟩
 | @cons x l₁ l₂ _ ih =>
  intro m hm
  cases m with
  | nil=>simp at hm
  | cons y m =>
   obtain ⟨m',h1,h2,h3⟩:=ih m (by simpa using hm)
   refine ⟨y :: m',h1.cons y,by simp [h2],fun p hp=>?_⟩
   rw [List.zip_cons_cons,List.mem_cons] at hp ⊢
   exact hp.imp id (h3 p)
 | @swap x y l =>
  intro m hm
  match m,hm with
  | [],hm=>simp at hm
  | [_],hm=>simp at hm
  | a :: b :: m,hm =>
   refine ⟨b :: a :: m,.swap _ _ _,by simpa using hm,fun p hp=>?_⟩
   simp only [List.zip_cons_cons,List.mem_cons] at hp ⊢
   rcases hp with h | h | h
   ·exact .inr (.inl h)
   ·exact .inl h
   ·exact .inr (.inr h)
 | @trans a b c _ _ ih1 ih2 =>
  intro m hm
  obtain ⟨m2,h1,h2,h3⟩:=ih2 m hm
  obtain ⟨m1,k1,k2,k3⟩:=ih1 m2 h2
  exact ⟨m1,k1.trans h1,k2,fun p hp=>h3 p (k3 p hp)⟩
theorem RwsIn.perm {w:World} {ws ws':List RwW} {xs:List RwP} (h:RwsIn w ws xs) (hp:ws'.Perm ws):∃ xs',xs'.Perm xs ∧ RwsIn w ws' xs':=by
 obtain ⟨xs',h1,h2,h3⟩:=perm_zip hp xs h.len
 refine ⟨xs',h1,h2,fun i a b=>?_⟩
 have hm:(ws'[i],xs'[i]) ∈ ws'.zip xs':=by
  rw [List.mem_iff_getElem]
  exact ⟨i,by rw [List.length_zip];omega,by simp⟩
 obtain ⟨k,hk,e⟩:=List.mem_iff_getElem.1 (h3 _ hm)
 rw [List.length_zip] at hk
 rw [List.getElem_zip] at e
 injection e with e1 e2
 have:=h.at_ k (by omega) (by omega)
 rw [e1,e2] at this
 exact this
theorem RwQ.perm {w:World} {B:Nat → Prop} {ws ws':List RwW} {xs:List RwP} (h:RwQ w B ws xs) (hp:ws'.Perm ws):∃ xs',xs'.Perm xs ∧ RwQ w B ws' xs':=by
 obtain ⟨xs',h1,h2,h3⟩:=perm_zip hp xs h.inn.len
 have key:∀ i (a:i < ws'.length) (b:i < xs'.length),RwIn w ws'[i] xs'[i] ∧ (xs'[i].Heads ≠ [] → Off ws'[i].A (fun b=>¬ B b)):=fun i a b=>by
  have hm:(ws'[i],xs'[i]) ∈ ws'.zip xs':=by
   rw [List.mem_iff_getElem]
   exact ⟨i,by rw [List.length_zip];omega,by simp⟩
  obtain ⟨k,hk,e⟩:=List.mem_iff_getElem.1 (h3 _ hm)
  rw [List.length_zip] at hk
  rw [List.getElem_zip] at e
  injection e with e1 e2
  have h5:=h.inn.at_ k (by omega) (by omega)
  have h6:=h.hoff k (by omega) (by omega)
  rw [e1,e2] at h5
  rw [e1,e2] at h6
  exact ⟨h5,h6⟩
 exact ⟨xs',h1,⟨h2,fun i a b=>(key i a b).1⟩,fun i a b=>(key i a b).2⟩
theorem RwQ.sorted {w:World} {B:Nat → Prop} {ws:List RwW} {xs:List RwP} (h:RwQ w B ws xs) (hs:ws.Pairwise fun x y=>ltOf cfN y x = false):xs.Pairwise fun a b=>¬ cmpS b.Node a.Node < 0:=by
 rw [List.pairwise_iff_getElem] at hs ⊢
 intro i j hi hj hij
 have hl:=h.inn.len
 have:=hs i j (by omega) (by omega) hij
 simp only [ltOf,cfN,decide_eq_false_iff_not] at this
 rw [(h.inn.at_ i (by omega) hi).node,(h.inn.at_ j (by omega) hj).node]
 exact of_decide_eq_false this
theorem ItQ.pre {W w:World} {L M:Nat} {A:Option Addr} {rs ys:List ItW} {its zs:List It} (h:ItQ W w L M A (rs ++ ys) (its ++ zs)) (hl:rs.length = its.length):ItQ W w L M A rs its:=by
 refine ⟨Sl.pre (by have:=h.sl;rwa [Cod.row_append] at this),⟨hl,fun i h1 h2=>?_⟩,fun hne=>h.off (by simp [hne]),fun i h1 h2=>?_⟩
 ·have:=h.inn.at_ i (by simp;omega) (by simp;omega)
  rwa [List.getElem_append_left h1,List.getElem_append_left h2] at this
 ·have:=h.hoff i (by simp;omega) (by simp;omega)
  rwa [List.getElem_append_left h1,List.getElem_append_left h2] at this
theorem sort_rise {xs:List RwP} (h:xs.Pairwise fun a b=>¬ cmpS b.Node a.Node < 0) (hn:xs.Pairwise fun a b=>a.Node ≠ b.Node):xs.Pairwise fun a b=>cmpS a.Node b.Node < 0:=by
 refine (h.and hn).imp fun {a b} hh=>?_
 have e:=cmpS_flip a.Node b.Node
 rcases Int.lt_trichotomy (cmpS a.Node b.Node) 0 with h3 | h3 | h3
 ·exact h3
 ·exact absurd (cmpS_zero.1 h3) hh.2
 ·have:=hh.1;omega
def LoTo (w:World) (D:ID → Int × List It) (id:ID) (e:Ending) (w':World):Prop :=
 ∃ (E:Int) (acc:List RwP) (A:Option Addr) (c:Nat) (ws:List RwW),e = .returned (.tuple #[.slice A ws.length c,.int .i64 E]) ∧ LdZ D id E acc ∧ Fr noB w w' ∧ (E ≠ 0 → A = none ∧ c = 0 ∧ ws = []) ∧
  (E = 0 → ∃ xs,xs.Perm acc ∧ Sl w' A (codR.row ws) ∧ RwsIn w' ws xs ∧ xs.length ≤ 5000 ∧ xs.Pairwise fun a b=>¬ cmpS b.Node a.Node < 0)
set_option maxRecDepth 100000 in
set_option maxHeartbeats 4000000 in
theorem svload_any (w:World) (X:Nat) (Z:Nat → Prop) (o:List (List UInt8)) (hX:BoxIn w X Z o) (hlen:o.length ≤ 1000000000) (id:ID) :
  Calls Tryz.prog 9 #[encI id,getF X] w (LoTo w (dirO nameH o) id):=by
 have hXl:=hX.lt
 have f0:Fr noB w (w.alloc (ido id)):=(Fr.refl noB w).alloc _
 have b0:=bxI_rd (bxI_new w id)
 have HX:=Lib.hid ((hX.more.sub (Z':=fun b=>w.heap.size ≤ b) fun b hb=>.inr hb).fr0 f0)
 have HXL:=Lib.hid (show X < w.heap.size from hXl)
 have HF0:=Lib.hid f0
 have HLN:=Lib.hid hlen
 rw [show getF X = .func (.func 10) #[.pointer (some ⟨X,0,none⟩)] #[] from rfl]
 clear hX hlen hXl f0
 go_enter Tryz.func9,Tryz.ntmps9
 go_upto_region 2 with fail
 have fm:Fr noB (w.alloc (ido id)) ((w.alloc (ido id)).alloc (.map #[] 0)):=(Fr.refl noB _).alloc _
 have fl:Fr noB ((w.alloc (ido id)).alloc (.map #[] 0)) (((w.alloc (ido id)).alloc (.map #[] 0)).alloc (.cells #[.func (.func 10) #[.pointer (some ⟨X,0,none⟩)] #[],.slice none 0 0,.map (some (w.heap.size + 1))] 70)):=(Fr.refl noB _).alloc _
 have m0:=mpT_fr0 (mpT_new (w.alloc (ido id))) fl
 have B0:=Blk.new ((w.alloc (ido id)).alloc (.map #[] 0)) 70 [getF X,.slice none 0 0,.map (some (w.heap.size + 1))]
 have q0:=rdI_fr (rdI_fr b0 (rdI_lt b0) fm (by simp [noB])) (Nat.lt_of_lt_of_le (rdI_lt b0) fm.size) fl (by simp [noB])
 have z1:(w.alloc (ido id)).heap.size = w.heap.size + 1:=by simp
 have z2:((w.alloc (ido id)).alloc (.map #[] 0)).heap.size = w.heap.size + 1 + 1:=by simp
 rw [z2] at B0
 rw [z1] at m0
 have HF2:=Lib.hid (HF0.out.step0 (fm.step0 fl))
 have HX2:=Lib.hid (HX.out.fr0 (fm.step0 fl))
 unfold getF at B0
 simp only [List.toArray] at B0
 clear fm fl b0 HX HF0 z1 z2
 have hML:w.heap.size ≤ w.heap.size + 1 ∧ w.heap.size ≤ w.heap.size + 1 + 1:=by omega
 generalize ((w.alloc (ido id)).alloc (.map #[] 0)).alloc (.cells #[.func (.func 10) #[.pointer (some ⟨X,0,none⟩)] #[],.slice none 0 0,.map (some (w.heap.size + 1))] 70) = w2 at m0 B0 q0 HF2 HX2 ⊢
 generalize w.heap.size + 1 + 1 = L at B0 hML ⊢
 generalize w.heap.size + 1 = M at m0 B0 hML ⊢
 generalize w.heap.size = P at q0
 have HL0:=Lib.hid (show LdIn w w2 X o L M [] none 0 [] from ⟨B0,World.ownsRow_nil _ _ _ _,⟨⟨rfl,fun i h=>absurd h (Nat.not_lt_zero i)⟩,fun i h=>absurd h (Nat.not_lt_zero i)⟩,⟨[],m0,by simp⟩,HX2.out,HXL.out,hML.2,hML.1,Nat.zero_le _⟩)
 clear m0 B0 hML HX2
 have CD:=Lib.hid (lddir_any w2 L X _ _ _ o HL0.out.blk HL0.out.bx HLN.out id)
 rcases Classical.em ((dirO nameH o id).1 = 0) with h0 | h0
 ·have H0:=Lib.hid h0
  clear h0
  go_upto_region 5 with (go_at_call 22;refine CD.out.mono ?_;rintro e w3 ⟨f3,h3⟩;obtain ⟨A2,c2,rs,rfl,ho3,hi3⟩:=h3.elim (fun h=>absurd H0.out h.1) (fun h=>h.2);have HF3:=Lib.hid f3;have HO3:=Lib.hid ho3;have HI3:=Lib.hid hi3;clear h3 f3 ho3 hi3)
  have HL3:=Lib.hid (HL0.out.fr0 HF3.out)
  have HG:=Lib.hid (dirO_good H0.out)
  have hne:rs ≠ []:=fun e=>HG.out.2 (List.eq_nil_of_length_eq_zero (by rw [← HI3.out.len,e];rfl))
  obtain ⟨lr,r,hrs⟩:∃ lr r,rs = lr ++ [r]:=⟨rs.dropLast,rs.getLast hne,(List.dropLast_concat_getLast hne).symm⟩
  obtain ⟨l,x,hlx⟩:∃ l x,(dirO nameH o id).2 = l ++ [x]:=⟨_,_,(List.dropLast_concat_getLast HG.out.2).symm⟩
  have HLX:=Lib.hid hlx
  have HQ:=Lib.hid (show ItQ w w3 L M A2 (lr ++ [r]) (l ++ [x]) from by
   have h:=ItQ.own (W:=w) HL3.out.blk HL3.out.st.choose_spec.1 HO3.out HI3.out
   rw [hrs,hlx] at h
   exact h)
  have HGD:=Lib.hid (show GoodI (l ++ [x]) by have:=HG.out.1;rw [hlx] at this;exact this)
  have HLN2:=Lib.hid (show lr.length = l.length ∧ l.length ≤ 999 ∧ rs.length = lr.length + 1 from by
   have h1:=HQ.out.inn.len
   have h2:=HGD.out.1
   simp only [List.length_append,List.length_singleton] at h1 h2
   exact ⟨by omega,by omega,by rw [hrs];simp⟩)
  have HCAP:=Lib.hid (show rs.length ≤ c2 from own_cap HO3.out)
  clear HI3 HG hne hrs hlx
  obtain ⟨k,hk⟩:∃ k,k = lr.length:=⟨_,rfl⟩
  have HK:=Lib.hid hk
  obtain ⟨m,hm⟩:∃ m,m = rs.length:=⟨_,rfl⟩
  rw [← hm]
  have HM:=Lib.hid hm
  have j1:(k:Int) ≤ (c2:Int):=by have:=HCAP.out;have:=HLN2.out;omega
  have i0:(0:Int) ≤ (k:Int):=by omega
  have i1:(k:Int) < (m:Int):=by have:=HLN2.out;omega
  have wk:wrap64 ((m:Int) - 1) = (k:Int):=by rw [IntWalk.wrap64_in _ (by have:=HLN2.out;omega)];have:=HLN2.out;omega
  obtain ⟨g,off,rfl,hg⟩:=HQ.out.sl.adC (by simp)
  have e1:codT.rd w3 g (off + k * 38) = some r:=by
   have h1:=HQ.out.sl.rd (C:=codT) k (by rw [List.length_append,hk];simp)
   rw [List.getElem_append_right (by omega)] at h1
   have h2:codT.rd w3 g (off + k * codT.n) = some r:=by simpa [hk] using h1
   exact h2
  clear hg hk hm q0
  have HIX:=Lib.hid (show ItIn w3 r x by
   have h1:=HQ.out.inn.at_ k (by rw [List.length_append,HK.out];simp) (by have:=HLN2.out.1;rw [List.length_append,HK.out,this];simp)
   rw [List.getElem_append_right (by rw [HK.out];exact Nat.le_refl _),List.getElem_append_right (by rw [HK.out,HLN2.out.1];exact Nat.le_refl _)] at h1
   simpa using h1)
  go_upto_region 6 with fail
  have fb:Fr noB w3 (w3.alloc (codT.o r)):=(Fr.refl noB w3).alloc _
  have bB:=Cod.bxd_new (C:=codT) w3 r
  have fd:Fr noB (w3.alloc (codT.o r)) (w3.alloc (codT.o r)).drew:=(Fr.refl noB _).drew
  have HFB:=Lib.hid (fb.step0 fd)
  have HBX:=Lib.hid (Cod.bxd_fr0 bB fd)
  have hF0:codS.rd (w3.alloc (codT.o r)).drew w3.heap.size 0 = some r.Node ∧ codS.rd (w3.alloc (codT.o r)).drew w3.heap.size 2 = some r.At ∧ (w3.alloc (codT.o r)).drew.cell? ⟨w3.heap.size,4,none⟩ = some (.string (str r.Name)) ∧ (w3.alloc (codT.o r)).drew.cell? ⟨w3.heap.size,37,none⟩ = some (.slice r.A r.n r.c):=by
   have hq:=itAt (Cod.bxd_rd HBX.out)
   exact ⟨hq.node,hq.At,hq.name,hq.heads⟩
  have keep:∀ w' w'':World,Fr noB w' w'' → (codS.rd w' w3.heap.size 0 = some r.Node ∧ codS.rd w' w3.heap.size 2 = some r.At ∧ w'.cell? ⟨w3.heap.size,4,none⟩ = some (.string (str r.Name)) ∧ w'.cell? ⟨w3.heap.size,37,none⟩ = some (.slice r.A r.n r.c)) → (codS.rd w'' w3.heap.size 0 = some r.Node ∧ codS.rd w'' w3.heap.size 2 = some r.At ∧ w''.cell? ⟨w3.heap.size,4,none⟩ = some (.string (str r.Name)) ∧ w''.cell? ⟨w3.heap.size,37,none⟩ = some (.slice r.A r.n r.c)):=fun w' w'' f h=>⟨Cod.rd_fr0 h.1 f,Cod.rd_fr0 h.2.1 f,cell_fr0 h.2.2.1 f,cell_fr0 h.2.2.2 f⟩
  have HN3:=Lib.hid (show w.heap.size ≤ w3.heap.size from (HF2.out.step0 HF3.out).size)
  clear fb bB fd e1 wk i1
  generalize w3.heap.size = N at HBX hF0 keep HN3 ⊢
  by_cases h1:r.Node = lastS
  ·have d1:decide (r.Node = lastS) = true:=by simp [h1]
   have HA1:=Lib.hid h1
   clear h1
   by_cases h2:r.At = lastS
   ·have d2:decide (r.At = lastS) = true:=by simp [h2]
    have HA2:=Lib.hid h2
    clear h2
    by_cases h3:r.Name = trashB
    ·have d3:((str r.Name).toList == [116,114,97,115,104]) = true:=by rw [str_toList,h3];rfl
     have HA3:=Lib.hid h3
     clear h3
     by_cases h4:r.n = 0
     ·have d4:¬ (0:Int) < (r.n:Int):=by omega
      have HA4:=Lib.hid h4
      clear h4
      refine wp_region_M 20 21 [⟨2147483648,512,0⟩,⟨4294967296,2147483648,1⟩,⟨8589934592,0,0⟩,⟨17179869184,12884901888,6⟩,⟨34359738368,17179869184,12⟩,⟨68719476736,34359738880,16⟩,⟨137438953472,103079215104,48⟩,⟨274877906944,34359738368,16⟩,⟨549755813888,446676598784,208⟩,⟨1099511627776,584115552256,272⟩,⟨2199023255552,1099511627776,640⟩,⟨4398046511104,2199023256064,1024⟩,⟨8796093022208,6597069766656,3072⟩,⟨17592186044416,10995116277760,5120⟩,⟨35184372088832,19791209299968,9216⟩,⟨70368744177664,35184372088832,17408⟩,⟨140737488355328,70368744178176,32768⟩,⟨281474976710656,211106232532992,98304⟩,⟨562949953421312,351843720888320,163840⟩,⟨1125899906842624,633318697598976,294912⟩,⟨2251799813685248,1196268651020288,557056⟩] [(true,0),(true,1),(false,2),(true,3),(true,4),(true,5),(true,6),(false,7),(true,8),(true,9),(true,10),(true,11),(true,12),(true,13),(true,14),(true,15),(true,16),(true,17),(true,18),(true,19)] (fun w'=>codS.rd w' N 0 = some r.Node ∧ codS.rd w' N 2 = some r.At ∧ w'.cell? ⟨N,4,none⟩ = some (.string (str r.Name)) ∧ w'.cell? ⟨N,37,none⟩ = some (.slice r.A r.n r.c)) (by kernel_rfl) rfl (by kernel_rfl) (by kernel_rfl) (by kernel_rfl) hF0 (fun hA hF=>?_)
      clear hF0
      generalize (w3.alloc (codT.o r)).drew = wd at hF HFB HBX ⊢
      iterate 2
       refine wpAnyS_take (v:=?_) hA rfl (fun _ _ _ h=>h) (Or.inl ⟨by rfl,?_⟩) hF (fun hA=>?_)
       rotate_left
       ·intro wS hSw;(try dsimp only at hSw);obtain ⟨s1,s2,s3,s4⟩:=hSw;first | (apply Eq.trans;apply ex_ld_id;exact rfl;exact rfl;assumption;with_reducible rfl) | (apply Eq.trans;apply ex_ldT_at;exact rfl;exact rfl;assumption;with_reducible rfl) | (apply Eq.trans;apply ex_ldS_at;exact rfl;exact rfl;assumption;with_reducible rfl) | (go_simp;try with_reducible rfl)
       try simp only [sA1,sA2,sA3,Act.put,sA4,sA5,sA6]
      refine wpAnyS_one hA rfl (fun K' hK=>?_)
      go_simp
      go_at_call 19
      refine (last_any wd).mono ?_
      rintro e w4 ⟨rfl,f4⟩
      have HFB:=Lib.hid (HFB.out.step0 f4)
      have HBX:=Lib.hid (Cod.bxd_fr0 HBX.out f4)
      replace hF:=keep _ _ f4 hF
      refine hK.out _ _ hF (fun hA=>?_)
      clear hK K'
      clear f4
      iterate 4
       refine wpAnyS_take (v:=?_) hA rfl (fun _ _ _ h=>h) (Or.inl ⟨by rfl,?_⟩) hF (fun hA=>?_)
       rotate_left
       ·intro wS hSw;(try dsimp only at hSw);obtain ⟨s1,s2,s3,s4⟩:=hSw;first | (apply Eq.trans;apply ex_ld_id;exact rfl;exact rfl;assumption;with_reducible rfl) | (apply Eq.trans;apply ex_ldT_at;exact rfl;exact rfl;assumption;with_reducible rfl) | (apply Eq.trans;apply ex_ldS_at;exact rfl;exact rfl;assumption;with_reducible rfl) | (go_simp;try with_reducible rfl)
       try simp only [sA1,sA2,sA3,Act.put,sA4,sA5,sA6]
      refine wpAnyS_one hA rfl (fun K' hK=>?_)
      rw [if_pos (by rfl)]
      go_simp
      go_at_call 19
      refine (last_any w4).mono ?_
      rintro e w5 ⟨rfl,f5⟩
      have HFB:=Lib.hid (HFB.out.step0 f5)
      have HBX:=Lib.hid (Cod.bxd_fr0 HBX.out f5)
      replace hF:=keep _ _ f5 hF
      refine hK.out _ _ hF (fun hA=>?_)
      clear hK K'
      clear f5
      iterate 12
       refine wpAnyS_take (v:=?_) hA rfl (fun _ _ _ h=>h) (Or.inl ⟨by rfl,?_⟩) hF (fun hA=>?_)
       rotate_left
       ·intro wS hSw;(try dsimp only at hSw);obtain ⟨s1,s2,s3,s4⟩:=hSw;first | (apply Eq.trans;apply ex_ld_id;exact rfl;exact rfl;assumption;with_reducible rfl) | (apply Eq.trans;apply ex_ldT_at;exact rfl;exact rfl;assumption;with_reducible rfl) | (apply Eq.trans;apply ex_ldS_at;exact rfl;exact rfl;assumption;with_reducible rfl) | (go_simp;try with_reducible rfl)
       try simp only [sA1,sA2,sA3,Act.put,sA4,sA5,sA6]
      refine wpAnyS_end hA rfl ?_
      simp only [List.drop_succ_cons,List.drop_zero]
      clear hF keep
      have wk:wrap64 ((m:Int) - 1) = (k:Int):=by rw [IntWalk.wrap64_in _ (by have:=HLN2.out;have:=HM.out;omega)];have:=HLN2.out;have:=HM.out;have:=HK.out;omega
      have HEND:=Lib.hid (show x.Node = lastS ∧ x.At = lastS ∧ x.Name = trashB ∧ x.Heads = [] from by
       have e:=HIX.out.eq
       refine ⟨by rw [e];exact HA1.out,by rw [e];exact HA2.out,by rw [e];exact HA3.out,List.eq_nil_of_length_eq_zero (by rw [HIX.out.len];exact HA4.out)⟩)
      have HL5:=Lib.hid (HL3.out.fr0 HFB.out)
      have HQ5:=Lib.hid ((HQ.out.fr HFB.out.any).pre HLN2.out.1)
      have HW5:=Lib.hid ((HF2.out.step0 HF3.out).step0 HFB.out)
      have CU:=Lib.hid (show Calls Tryz.prog 23 #[.pointer (some ⟨L,0,none⟩),.agg (codS.A zSt),.slice (some ⟨g,off,none⟩) k c2] w5 (LdTo w w5 X L M o (Und (dirO nameH o) zSt l [])) from by
       rw [HK.out]
       exact ldunder_any w X L M o HLN.out 5000 w5 zSt _ c2 lr l [] none 0 [] wf_zSt ⟨by have:=HLN2.out;omega,fun y hy=>HGD.out.2 y (List.mem_append_left _ hy)⟩ HL5.out HQ5.out (by simp))
      go_upto_region 9 with (go_at_call 23;refine CU.out.mono ?_;rintro e w6 ⟨E,acc1,A6,c6,ws6,rfl,hu,hl6,f6⟩;have HU:=Lib.hid hu;have HL6:=Lib.hid hl6;have HF6:=Lib.hid f6;clear hu hl6 f6)
      have HW6:=Lib.hid (HW5.out.step HF6.out fun b hb=>.inl (bad_ge HL5.out hb))
      clear wk j1
      by_cases hE:E = 0
      ·have HE:=Lib.hid hE
       subst hE
       have HBX6:=Lib.hid (Cod.bxd_fr HBX.out HF6.out (not_bad HL5.out.blk HL5.out.st.choose_spec.1 (e:=63) (by decide) (by decide) ⟨_,_,Cod.bxd_blk HBX.out⟩))
       have q2:=(itAt (Cod.bxd_rd HBX6.out)).sub
       have CS:=Lib.hid (ldsub_any w X L M o HLN.out 5000 w6 trS r.Sub acc1 A6 c6 ws6 wf_trS HL6.out (by omega))
       have HSUB:=Lib.hid (show x.Sub = r.Sub by rw [HIX.out.eq];rfl)
       go_upto_region 12 with (go_at_call 24;refine CS.out.mono ?_;rintro e w7 ⟨E,acc2,A7,c7,ws7,rfl,hs,hl7,f7⟩;have HS:=Lib.hid hs;have HL7:=Lib.hid hl7;have HF7:=Lib.hid f7;clear hs hl7 f7)
       have HW7:=Lib.hid (HW6.out.step HF7.out fun b hb=>.inl (bad_ge HL6.out hb))
       clear q2
       by_cases hE:E = 0
       ·have HE2:=Lib.hid hE
        subst hE
        have k1:w7.cell? ⟨L,1,none⟩ = some (.slice A7 ws7.length c7):=by rw [HL7.out.blk.cell];rfl
        have HLZ:=Lib.hid (show LdZ (dirO nameH o) id 0 acc2 from by
         rcases HS.out with ⟨a1,_,rfl⟩ | ⟨_,a2,a3,_⟩ | ⟨a1,a2,a3⟩
         ·exact .noSub H0.out HLX.out HEND.out HU.out (HSUB.out.trans a1)
         ·exact absurd a3.symm a2
         ·exact .all H0.out HLX.out HEND.out HU.out (by rw [HSUB.out];exact a1) (by rw [HSUB.out];exact a2) (by rw [HSUB.out];exact a3))
        have hln:ws7.length ≤ 5000:=by rw [HL7.out.rws.inn.len];exact HL7.out.max
        have CT:=Lib.hid (ldRows_any w w7 A7 c7 ws7.length ws7 rfl HL7.out.own (by omega))
        go_upto_region 15 with (go_at_call 25;refine CT.out.mono ?_;rintro e w8 ⟨rfl,ws8,hp8,hs8,ho8,f8⟩;have HP8:=Lib.hid hp8;have HS8:=Lib.hid hs8;have HO8:=Lib.hid ho8;have HF8:=Lib.hid f8;clear hp8 hs8 ho8 f8)
        have k2:w8.cell? ⟨L,1,none⟩ = some (.slice A7 ws7.length c7):=by rw [(HL7.out.blk.fr HF8.out (blk_own HL7.out.blk HL7.out.own (by decide))).cell];rfl
        clear k1 hln
        go_wp2_with fail
        refine bodyPost_ret (results_tmp2 rfl _ _ _) rfl ?_
        obtain ⟨xs,hxp,hxq⟩:=HL7.out.rws.perm HP8.out
        have f8:Fr (badL w w7 L M) w7 w8:=HF8.out.mono fun b hb=>own_bad HL7.out hb
        refine ⟨0,acc2,A7,c7,ws8,by rw [HP8.out.length_eq];rfl,HLZ.out,HW7.out.step HF8.out fun b hb=>.inl (own_lt HL7.out.own b hb).1,fun h=>absurd rfl h,fun _=>⟨xs,hxp,Sl.own HO8.out,(hxq.frB f8).inn,by rw [hxp.length_eq];exact HL7.out.max,hxq.sorted HS8.out⟩⟩
       ·have HE2:=Lib.hid hE
        have hE':¬ E = 0:=hE
        clear hE
        go_wp2_with fail
        refine bodyPost_ret (results_tmp2 rfl _ _ _) rfl ?_
        refine ⟨E,[],none,0,[],rfl,?_,HW7.out,fun _=>⟨rfl,rfl,rfl⟩,fun h=>absurd h HE2.out⟩
        rcases HS.out with ⟨_,a2,_⟩ | ⟨a1,a2,a3,_⟩ | ⟨a1,a2,a3⟩
        ·exact absurd a2 HE2.out
        ·rw [a3,← HSUB.out]
         exact .subE H0.out HLX.out HEND.out HU.out (by rw [HSUB.out];exact a1) (by rw [HSUB.out];exact a2)
        ·exact .trashE H0.out HLX.out HEND.out HU.out (by rw [HSUB.out];exact a1) (by rw [HSUB.out];exact a2) (by rw [HSUB.out];exact a3) HE2.out
      ·have HE2:=Lib.hid hE
       have hE':¬ E = 0:=hE
       clear hE
       go_wp2_with fail
       refine bodyPost_ret (results_tmp2 rfl _ _ _) rfl ?_
       exact ⟨E,[],none,0,[],rfl,.under H0.out HLX.out HEND.out HU.out HE2.out,HW6.out,fun _=>⟨rfl,rfl,rfl⟩,fun h=>absurd h HE2.out⟩
     ·have d4:(0:Int) < (r.n:Int):=by omega
      have HBA:=Lib.hid (show ¬ (x.Node = lastS ∧ x.At = lastS ∧ x.Name = trashB ∧ x.Heads = []) from fun h=>h4 (by rw [← HIX.out.len,h.2.2.2];rfl))
      clear h4
      refine wp_region_M 20 21 [⟨2147483648,512,0⟩,⟨4294967296,2147483648,1⟩,⟨8589934592,0,0⟩,⟨17179869184,12884901888,6⟩,⟨34359738368,17179869184,12⟩,⟨68719476736,34359738880,16⟩,⟨137438953472,103079215104,48⟩,⟨274877906944,34359738368,16⟩,⟨549755813888,446676598784,208⟩,⟨1099511627776,584115552256,272⟩,⟨2199023255552,1099511627776,640⟩,⟨4398046511104,2199023256064,1024⟩,⟨8796093022208,6597069766656,3072⟩,⟨17592186044416,10995116277760,5120⟩,⟨35184372088832,19791209299968,9216⟩,⟨70368744177664,35184372088832,17408⟩,⟨140737488355328,70368744178176,32768⟩,⟨281474976710656,211106232532992,98304⟩,⟨562949953421312,351843720888320,163840⟩,⟨1125899906842624,633318697598976,294912⟩,⟨2251799813685248,1196268651020288,557056⟩] [(true,0),(true,1),(false,2),(true,3),(true,4),(true,5),(true,6),(false,7),(true,8),(true,9),(true,10),(true,11),(true,12),(true,13),(true,14),(true,15),(true,16),(true,17),(true,18),(true,19)] (fun w'=>codS.rd w' N 0 = some r.Node ∧ codS.rd w' N 2 = some r.At ∧ w'.cell? ⟨N,4,none⟩ = some (.string (str r.Name)) ∧ w'.cell? ⟨N,37,none⟩ = some (.slice r.A r.n r.c)) (by kernel_rfl) rfl (by kernel_rfl) (by kernel_rfl) (by kernel_rfl) hF0 (fun hA hF=>?_)
      clear hF0
      generalize (w3.alloc (codT.o r)).drew = wd at hF HFB HBX ⊢
      iterate 2
       refine wpAnyS_take (v:=?_) hA rfl (fun _ _ _ h=>h) (Or.inl ⟨by rfl,?_⟩) hF (fun hA=>?_)
       rotate_left
       ·intro wS hSw;(try dsimp only at hSw);obtain ⟨s1,s2,s3,s4⟩:=hSw;first | (apply Eq.trans;apply ex_ld_id;exact rfl;exact rfl;assumption;with_reducible rfl) | (apply Eq.trans;apply ex_ldT_at;exact rfl;exact rfl;assumption;with_reducible rfl) | (apply Eq.trans;apply ex_ldS_at;exact rfl;exact rfl;assumption;with_reducible rfl) | (go_simp;try with_reducible rfl)
       try simp only [sA1,sA2,sA3,Act.put,sA4,sA5,sA6]
      refine wpAnyS_one hA rfl (fun K' hK=>?_)
      go_simp
      go_at_call 19
      refine (last_any wd).mono ?_
      rintro e w4 ⟨rfl,f4⟩
      have HFB:=Lib.hid (HFB.out.step0 f4)
      have HBX:=Lib.hid (Cod.bxd_fr0 HBX.out f4)
      replace hF:=keep _ _ f4 hF
      refine hK.out _ _ hF (fun hA=>?_)
      clear hK K'
      clear f4
      iterate 4
       refine wpAnyS_take (v:=?_) hA rfl (fun _ _ _ h=>h) (Or.inl ⟨by rfl,?_⟩) hF (fun hA=>?_)
       rotate_left
       ·intro wS hSw;(try dsimp only at hSw);obtain ⟨s1,s2,s3,s4⟩:=hSw;first | (apply Eq.trans;apply ex_ld_id;exact rfl;exact rfl;assumption;with_reducible rfl) | (apply Eq.trans;apply ex_ldT_at;exact rfl;exact rfl;assumption;with_reducible rfl) | (apply Eq.trans;apply ex_ldS_at;exact rfl;exact rfl;assumption;with_reducible rfl) | (go_simp;try with_reducible rfl)
       try simp only [sA1,sA2,sA3,Act.put,sA4,sA5,sA6]
      refine wpAnyS_one hA rfl (fun K' hK=>?_)
      rw [if_pos (by rfl)]
      go_simp
      go_at_call 19
      refine (last_any w4).mono ?_
      rintro e w5 ⟨rfl,f5⟩
      have HFB:=Lib.hid (HFB.out.step0 f5)
      have HBX:=Lib.hid (Cod.bxd_fr0 HBX.out f5)
      replace hF:=keep _ _ f5 hF
      refine hK.out _ _ hF (fun hA=>?_)
      clear hK K'
      clear f5
      iterate 12
       refine wpAnyS_take (v:=?_) hA rfl (fun _ _ _ h=>h) (Or.inl ⟨by rfl,?_⟩) hF (fun hA=>?_)
       rotate_left
       ·intro wS hSw;(try dsimp only at hSw);obtain ⟨s1,s2,s3,s4⟩:=hSw;first | (apply Eq.trans;apply ex_ld_id;exact rfl;exact rfl;assumption;with_reducible rfl) | (apply Eq.trans;apply ex_ldT_at;exact rfl;exact rfl;assumption;with_reducible rfl) | (apply Eq.trans;apply ex_ldS_at;exact rfl;exact rfl;assumption;with_reducible rfl) | (go_simp;try with_reducible rfl)
       try simp only [sA1,sA2,sA3,Act.put,sA4,sA5,sA6]
      refine wpAnyS_end hA rfl ?_
      simp only [List.drop_succ_cons,List.drop_zero]
      clear hF keep
      go_wp2_with fail
      refine bodyPost_ret (results_tmp2 rfl _ _ _) rfl ?_
      exact ⟨130,[],none,0,[],rfl,.bad H0.out HLX.out HBA.out,(HF2.out.step0 HF3.out).step0 HFB.out,fun _=>⟨rfl,rfl,rfl⟩,fun h=>absurd h (by decide)⟩
    ·have HBA:=Lib.hid (show ¬ (x.Node = lastS ∧ x.At = lastS ∧ x.Name = trashB ∧ x.Heads = []) from fun h=>h3 (by have:=h.2.2.1;rw [HIX.out.eq] at this;exact this))
     have d3:((str r.Name).toList == [116,114,97,115,104]) = false:=by rw [str_toList];exact beq_eq_false_iff_ne.2 h3
     clear h3
     refine wp_region_M 20 21 [⟨2147483648,512,0⟩,⟨4294967296,2147483648,1⟩,⟨8589934592,0,0⟩,⟨17179869184,12884901888,6⟩,⟨34359738368,17179869184,12⟩,⟨68719476736,34359738880,16⟩,⟨137438953472,103079215104,48⟩,⟨274877906944,34359738368,16⟩,⟨549755813888,446676598784,208⟩,⟨1099511627776,584115552256,272⟩,⟨2199023255552,1099511627776,640⟩,⟨4398046511104,2199023256064,1024⟩,⟨8796093022208,6597069766656,3072⟩,⟨17592186044416,10995116277760,5120⟩,⟨35184372088832,19791209299968,9216⟩,⟨70368744177664,35184372088832,17408⟩,⟨140737488355328,70368744178176,32768⟩,⟨281474976710656,211106232532992,98304⟩,⟨562949953421312,351843720888320,163840⟩,⟨1125899906842624,633318697598976,294912⟩,⟨2251799813685248,1196268651020288,557056⟩] [(true,0),(true,1),(false,2),(true,3),(true,4),(true,5),(true,6),(false,7),(true,8),(true,9),(true,10),(true,11),(true,12),(true,13),(true,14),(true,15),(true,16),(true,17),(true,18),(true,19)] (fun w'=>codS.rd w' N 0 = some r.Node ∧ codS.rd w' N 2 = some r.At ∧ w'.cell? ⟨N,4,none⟩ = some (.string (str r.Name)) ∧ w'.cell? ⟨N,37,none⟩ = some (.slice r.A r.n r.c)) (by kernel_rfl) rfl (by kernel_rfl) (by kernel_rfl) (by kernel_rfl) hF0 (fun hA hF=>?_)
     clear hF0
     generalize (w3.alloc (codT.o r)).drew = wd at hF HFB HBX ⊢
     iterate 2
      refine wpAnyS_take (v:=?_) hA rfl (fun _ _ _ h=>h) (Or.inl ⟨by rfl,?_⟩) hF (fun hA=>?_)
      rotate_left
      ·intro wS hSw;(try dsimp only at hSw);obtain ⟨s1,s2,s3,s4⟩:=hSw;first | (apply Eq.trans;apply ex_ld_id;exact rfl;exact rfl;assumption;with_reducible rfl) | (apply Eq.trans;apply ex_ldT_at;exact rfl;exact rfl;assumption;with_reducible rfl) | (apply Eq.trans;apply ex_ldS_at;exact rfl;exact rfl;assumption;with_reducible rfl) | (go_simp;try with_reducible rfl)
      try simp only [sA1,sA2,sA3,Act.put,sA4,sA5,sA6]
     refine wpAnyS_one hA rfl (fun K' hK=>?_)
     go_simp
     go_at_call 19
     refine (last_any wd).mono ?_
     rintro e w4 ⟨rfl,f4⟩
     have HFB:=Lib.hid (HFB.out.step0 f4)
     have HBX:=Lib.hid (Cod.bxd_fr0 HBX.out f4)
     replace hF:=keep _ _ f4 hF
     refine hK.out _ _ hF (fun hA=>?_)
     clear hK K'
     clear f4
     iterate 4
      refine wpAnyS_take (v:=?_) hA rfl (fun _ _ _ h=>h) (Or.inl ⟨by rfl,?_⟩) hF (fun hA=>?_)
      rotate_left
      ·intro wS hSw;(try dsimp only at hSw);obtain ⟨s1,s2,s3,s4⟩:=hSw;first | (apply Eq.trans;apply ex_ld_id;exact rfl;exact rfl;assumption;with_reducible rfl) | (apply Eq.trans;apply ex_ldT_at;exact rfl;exact rfl;assumption;with_reducible rfl) | (apply Eq.trans;apply ex_ldS_at;exact rfl;exact rfl;assumption;with_reducible rfl) | (go_simp;try with_reducible rfl)
      try simp only [sA1,sA2,sA3,Act.put,sA4,sA5,sA6]
     refine wpAnyS_one hA rfl (fun K' hK=>?_)
     rw [if_pos (by rfl)]
     go_simp
     go_at_call 19
     refine (last_any w4).mono ?_
     rintro e w5 ⟨rfl,f5⟩
     have HFB:=Lib.hid (HFB.out.step0 f5)
     have HBX:=Lib.hid (Cod.bxd_fr0 HBX.out f5)
     replace hF:=keep _ _ f5 hF
     refine hK.out _ _ hF (fun hA=>?_)
     clear hK K'
     clear f5
     iterate 8
      refine wpAnyS_take (v:=?_) hA rfl (fun _ _ _ h=>h) (Or.inl ⟨by rfl,?_⟩) hF (fun hA=>?_)
      rotate_left
      ·intro wS hSw;(try dsimp only at hSw);obtain ⟨s1,s2,s3,s4⟩:=hSw;first | (apply Eq.trans;apply ex_ld_id;exact rfl;exact rfl;assumption;with_reducible rfl) | (apply Eq.trans;apply ex_ldT_at;exact rfl;exact rfl;assumption;with_reducible rfl) | (apply Eq.trans;apply ex_ldS_at;exact rfl;exact rfl;assumption;with_reducible rfl) | (go_simp;try with_reducible rfl)
      try simp only [sA1,sA2,sA3,Act.put,sA4,sA5,sA6]
     iterate 4
      refine wpAnyS_take (v:=undef) hA rfl (fun _ _ _ h=>h) (Or.inr ⟨by rfl,rfl⟩) hF (fun hA=>?_)
      try simp only [sA1,sA2,sA3,Act.put,sA4,sA5,sA6]
     refine wpAnyS_end hA rfl ?_
     simp only [List.drop_succ_cons,List.drop_zero]
     clear hF keep
     go_wp2_with fail
     refine bodyPost_ret (results_tmp2 rfl _ _ _) rfl ?_
     exact ⟨130,[],none,0,[],rfl,.bad H0.out HLX.out HBA.out,(HF2.out.step0 HF3.out).step0 HFB.out,fun _=>⟨rfl,rfl,rfl⟩,fun h=>absurd h (by decide)⟩
   ·have d2:decide (r.At = lastS) = false:=by simp [h2]
    have HBA:=Lib.hid (show ¬ (x.Node = lastS ∧ x.At = lastS ∧ x.Name = trashB ∧ x.Heads = []) from fun h=>h2 (by have:=h.2.1;rw [HIX.out.eq] at this;exact this))
    clear h2
    refine wp_region_M 20 21 [⟨2147483648,512,0⟩,⟨4294967296,2147483648,1⟩,⟨8589934592,0,0⟩,⟨17179869184,12884901888,6⟩,⟨34359738368,17179869184,12⟩,⟨68719476736,34359738880,16⟩,⟨137438953472,103079215104,48⟩,⟨274877906944,34359738368,16⟩,⟨549755813888,446676598784,208⟩,⟨1099511627776,584115552256,272⟩,⟨2199023255552,1099511627776,640⟩,⟨4398046511104,2199023256064,1024⟩,⟨8796093022208,6597069766656,3072⟩,⟨17592186044416,10995116277760,5120⟩,⟨35184372088832,19791209299968,9216⟩,⟨70368744177664,35184372088832,17408⟩,⟨140737488355328,70368744178176,32768⟩,⟨281474976710656,211106232532992,98304⟩,⟨562949953421312,351843720888320,163840⟩,⟨1125899906842624,633318697598976,294912⟩,⟨2251799813685248,1196268651020288,557056⟩] [(true,0),(true,1),(false,2),(true,3),(true,4),(true,5),(true,6),(false,7),(true,8),(true,9),(true,10),(true,11),(true,12),(true,13),(true,14),(true,15),(true,16),(true,17),(true,18),(true,19)] (fun w'=>codS.rd w' N 0 = some r.Node ∧ codS.rd w' N 2 = some r.At ∧ w'.cell? ⟨N,4,none⟩ = some (.string (str r.Name)) ∧ w'.cell? ⟨N,37,none⟩ = some (.slice r.A r.n r.c)) (by kernel_rfl) rfl (by kernel_rfl) (by kernel_rfl) (by kernel_rfl) hF0 (fun hA hF=>?_)
    clear hF0
    generalize (w3.alloc (codT.o r)).drew = wd at hF HFB HBX ⊢
    iterate 2
     refine wpAnyS_take (v:=?_) hA rfl (fun _ _ _ h=>h) (Or.inl ⟨by rfl,?_⟩) hF (fun hA=>?_)
     rotate_left
     ·intro wS hSw;(try dsimp only at hSw);obtain ⟨s1,s2,s3,s4⟩:=hSw;first | (apply Eq.trans;apply ex_ld_id;exact rfl;exact rfl;assumption;with_reducible rfl) | (apply Eq.trans;apply ex_ldT_at;exact rfl;exact rfl;assumption;with_reducible rfl) | (apply Eq.trans;apply ex_ldS_at;exact rfl;exact rfl;assumption;with_reducible rfl) | (go_simp;try with_reducible rfl)
     try simp only [sA1,sA2,sA3,Act.put,sA4,sA5,sA6]
    refine wpAnyS_one hA rfl (fun K' hK=>?_)
    go_simp
    go_at_call 19
    refine (last_any wd).mono ?_
    rintro e w4 ⟨rfl,f4⟩
    have HFB:=Lib.hid (HFB.out.step0 f4)
    have HBX:=Lib.hid (Cod.bxd_fr0 HBX.out f4)
    replace hF:=keep _ _ f4 hF
    refine hK.out _ _ hF (fun hA=>?_)
    clear hK K'
    clear f4
    iterate 4
     refine wpAnyS_take (v:=?_) hA rfl (fun _ _ _ h=>h) (Or.inl ⟨by rfl,?_⟩) hF (fun hA=>?_)
     rotate_left
     ·intro wS hSw;(try dsimp only at hSw);obtain ⟨s1,s2,s3,s4⟩:=hSw;first | (apply Eq.trans;apply ex_ld_id;exact rfl;exact rfl;assumption;with_reducible rfl) | (apply Eq.trans;apply ex_ldT_at;exact rfl;exact rfl;assumption;with_reducible rfl) | (apply Eq.trans;apply ex_ldS_at;exact rfl;exact rfl;assumption;with_reducible rfl) | (go_simp;try with_reducible rfl)
     try simp only [sA1,sA2,sA3,Act.put,sA4,sA5,sA6]
    refine wpAnyS_one hA rfl (fun K' hK=>?_)
    rw [if_pos (by rfl)]
    go_simp
    go_at_call 19
    refine (last_any w4).mono ?_
    rintro e w5 ⟨rfl,f5⟩
    have HFB:=Lib.hid (HFB.out.step0 f5)
    have HBX:=Lib.hid (Cod.bxd_fr0 HBX.out f5)
    replace hF:=keep _ _ f5 hF
    refine hK.out _ _ hF (fun hA=>?_)
    clear hK K'
    clear f5
    iterate 3
     refine wpAnyS_take (v:=?_) hA rfl (fun _ _ _ h=>h) (Or.inl ⟨by rfl,?_⟩) hF (fun hA=>?_)
     rotate_left
     ·intro wS hSw;(try dsimp only at hSw);obtain ⟨s1,s2,s3,s4⟩:=hSw;first | (apply Eq.trans;apply ex_ld_id;exact rfl;exact rfl;assumption;with_reducible rfl) | (apply Eq.trans;apply ex_ldT_at;exact rfl;exact rfl;assumption;with_reducible rfl) | (apply Eq.trans;apply ex_ldS_at;exact rfl;exact rfl;assumption;with_reducible rfl) | (go_simp;try with_reducible rfl)
     try simp only [sA1,sA2,sA3,Act.put,sA4,sA5,sA6]
    iterate 3
     refine wpAnyS_take (v:=undef) hA rfl (fun _ _ _ h=>h) (Or.inr ⟨by rfl,rfl⟩) hF (fun hA=>?_)
     try simp only [sA1,sA2,sA3,Act.put,sA4,sA5,sA6]
    iterate 2
     refine wpAnyS_take (v:=?_) hA rfl (fun _ _ _ h=>h) (Or.inl ⟨by rfl,?_⟩) hF (fun hA=>?_)
     rotate_left
     ·intro wS hSw;(try dsimp only at hSw);obtain ⟨s1,s2,s3,s4⟩:=hSw;first | (apply Eq.trans;apply ex_ld_id;exact rfl;exact rfl;assumption;with_reducible rfl) | (apply Eq.trans;apply ex_ldT_at;exact rfl;exact rfl;assumption;with_reducible rfl) | (apply Eq.trans;apply ex_ldS_at;exact rfl;exact rfl;assumption;with_reducible rfl) | (go_simp;try with_reducible rfl)
     try simp only [sA1,sA2,sA3,Act.put,sA4,sA5,sA6]
    iterate 4
     refine wpAnyS_take (v:=undef) hA rfl (fun _ _ _ h=>h) (Or.inr ⟨by rfl,rfl⟩) hF (fun hA=>?_)
     try simp only [sA1,sA2,sA3,Act.put,sA4,sA5,sA6]
    refine wpAnyS_end hA rfl ?_
    simp only [List.drop_succ_cons,List.drop_zero]
    clear hF keep
    go_wp2_with fail
    refine bodyPost_ret (results_tmp2 rfl _ _ _) rfl ?_
    exact ⟨130,[],none,0,[],rfl,.bad H0.out HLX.out HBA.out,(HF2.out.step0 HF3.out).step0 HFB.out,fun _=>⟨rfl,rfl,rfl⟩,fun h=>absurd h (by decide)⟩
  ·have d1:decide (r.Node = lastS) = false:=by simp [h1]
   have HBA:=Lib.hid (show ¬ (x.Node = lastS ∧ x.At = lastS ∧ x.Name = trashB ∧ x.Heads = []) from fun h=>h1 (by have:=h.1;rw [HIX.out.eq] at this;exact this))
   clear h1
   refine wp_region_M 20 21 [⟨2147483648,512,0⟩,⟨4294967296,2147483648,1⟩,⟨8589934592,0,0⟩,⟨17179869184,12884901888,6⟩,⟨34359738368,17179869184,12⟩,⟨68719476736,34359738880,16⟩,⟨137438953472,103079215104,48⟩,⟨274877906944,34359738368,16⟩,⟨549755813888,446676598784,208⟩,⟨1099511627776,584115552256,272⟩,⟨2199023255552,1099511627776,640⟩,⟨4398046511104,2199023256064,1024⟩,⟨8796093022208,6597069766656,3072⟩,⟨17592186044416,10995116277760,5120⟩,⟨35184372088832,19791209299968,9216⟩,⟨70368744177664,35184372088832,17408⟩,⟨140737488355328,70368744178176,32768⟩,⟨281474976710656,211106232532992,98304⟩,⟨562949953421312,351843720888320,163840⟩,⟨1125899906842624,633318697598976,294912⟩,⟨2251799813685248,1196268651020288,557056⟩] [(true,0),(true,1),(false,2),(true,3),(true,4),(true,5),(true,6),(false,7),(true,8),(true,9),(true,10),(true,11),(true,12),(true,13),(true,14),(true,15),(true,16),(true,17),(true,18),(true,19)] (fun w'=>codS.rd w' N 0 = some r.Node ∧ codS.rd w' N 2 = some r.At ∧ w'.cell? ⟨N,4,none⟩ = some (.string (str r.Name)) ∧ w'.cell? ⟨N,37,none⟩ = some (.slice r.A r.n r.c)) (by kernel_rfl) rfl (by kernel_rfl) (by kernel_rfl) (by kernel_rfl) hF0 (fun hA hF=>?_)
   clear hF0
   generalize (w3.alloc (codT.o r)).drew = wd at hF HFB HBX ⊢
   iterate 2
    refine wpAnyS_take (v:=?_) hA rfl (fun _ _ _ h=>h) (Or.inl ⟨by rfl,?_⟩) hF (fun hA=>?_)
    rotate_left
    ·intro wS hSw;(try dsimp only at hSw);obtain ⟨s1,s2,s3,s4⟩:=hSw;first | (apply Eq.trans;apply ex_ld_id;exact rfl;exact rfl;assumption;with_reducible rfl) | (apply Eq.trans;apply ex_ldT_at;exact rfl;exact rfl;assumption;with_reducible rfl) | (apply Eq.trans;apply ex_ldS_at;exact rfl;exact rfl;assumption;with_reducible rfl) | (go_simp;try with_reducible rfl)
    try simp only [sA1,sA2,sA3,Act.put,sA4,sA5,sA6]
   refine wpAnyS_one hA rfl (fun K' hK=>?_)
   go_simp
   go_at_call 19
   refine (last_any wd).mono ?_
   rintro e w4 ⟨rfl,f4⟩
   have HFB:=Lib.hid (HFB.out.step0 f4)
   have HBX:=Lib.hid (Cod.bxd_fr0 HBX.out f4)
   replace hF:=keep _ _ f4 hF
   refine hK.out _ _ hF (fun hA=>?_)
   clear hK K'
   clear f4
   iterate 2
    refine wpAnyS_take (v:=?_) hA rfl (fun _ _ _ h=>h) (Or.inl ⟨by rfl,?_⟩) hF (fun hA=>?_)
    rotate_left
    ·intro wS hSw;(try dsimp only at hSw);obtain ⟨s1,s2,s3,s4⟩:=hSw;first | (apply Eq.trans;apply ex_ld_id;exact rfl;exact rfl;assumption;with_reducible rfl) | (apply Eq.trans;apply ex_ldT_at;exact rfl;exact rfl;assumption;with_reducible rfl) | (apply Eq.trans;apply ex_ldS_at;exact rfl;exact rfl;assumption;with_reducible rfl) | (go_simp;try with_reducible rfl)
    try simp only [sA1,sA2,sA3,Act.put,sA4,sA5,sA6]
   iterate 2
    refine wpAnyS_take (v:=undef) hA rfl (fun _ _ _ h=>h) (Or.inr ⟨by rfl,rfl⟩) hF (fun hA=>?_)
    try simp only [sA1,sA2,sA3,Act.put,sA4,sA5,sA6]
   refine wpAnyS_one hA rfl (fun K' hK=>?_)
   rw [if_neg (by exact Bool.false_ne_true)]
   refine hK.out _ _ hF (fun hA=>?_)
   clear hK K'
   try simp only [sA1,sA2,sA3,Act.put,sA4,sA5,sA6]
   refine wpAnyS_take (v:=undef) hA rfl (fun _ _ _ h=>h) (Or.inr ⟨by rfl,rfl⟩) hF (fun hA=>?_)
   try simp only [sA1,sA2,sA3,Act.put,sA4,sA5,sA6]
   iterate 2
    refine wpAnyS_take (v:=?_) hA rfl (fun _ _ _ h=>h) (Or.inl ⟨by rfl,?_⟩) hF (fun hA=>?_)
    rotate_left
    ·intro wS hSw;(try dsimp only at hSw);obtain ⟨s1,s2,s3,s4⟩:=hSw;first | (apply Eq.trans;apply ex_ld_id;exact rfl;exact rfl;assumption;with_reducible rfl) | (apply Eq.trans;apply ex_ldT_at;exact rfl;exact rfl;assumption;with_reducible rfl) | (apply Eq.trans;apply ex_ldS_at;exact rfl;exact rfl;assumption;with_reducible rfl) | (go_simp;try with_reducible rfl)
    try simp only [sA1,sA2,sA3,Act.put,sA4,sA5,sA6]
   iterate 3
    refine wpAnyS_take (v:=undef) hA rfl (fun _ _ _ h=>h) (Or.inr ⟨by rfl,rfl⟩) hF (fun hA=>?_)
    try simp only [sA1,sA2,sA3,Act.put,sA4,sA5,sA6]
   iterate 2
    refine wpAnyS_take (v:=?_) hA rfl (fun _ _ _ h=>h) (Or.inl ⟨by rfl,?_⟩) hF (fun hA=>?_)
    rotate_left
    ·intro wS hSw;(try dsimp only at hSw);obtain ⟨s1,s2,s3,s4⟩:=hSw;first | (apply Eq.trans;apply ex_ld_id;exact rfl;exact rfl;assumption;with_reducible rfl) | (apply Eq.trans;apply ex_ldT_at;exact rfl;exact rfl;assumption;with_reducible rfl) | (apply Eq.trans;apply ex_ldS_at;exact rfl;exact rfl;assumption;with_reducible rfl) | (go_simp;try with_reducible rfl)
    try simp only [sA1,sA2,sA3,Act.put,sA4,sA5,sA6]
   iterate 4
    refine wpAnyS_take (v:=undef) hA rfl (fun _ _ _ h=>h) (Or.inr ⟨by rfl,rfl⟩) hF (fun hA=>?_)
    try simp only [sA1,sA2,sA3,Act.put,sA4,sA5,sA6]
   refine wpAnyS_end hA rfl ?_
   simp only [List.drop_succ_cons,List.drop_zero]
   clear hF keep
   go_wp2_with fail
   refine bodyPost_ret (results_tmp2 rfl _ _ _) rfl ?_
   exact ⟨130,[],none,0,[],rfl,.bad H0.out HLX.out HBA.out,(HF2.out.step0 HF3.out).step0 HFB.out,fun _=>⟨rfl,rfl,rfl⟩,fun h=>absurd h (by decide)⟩
 ·have H0:=Lib.hid h0
  have h0':¬ (dirO nameH o id).1 = 0:=h0
  clear h0
  go_wp2_with (go_at_call 22;refine CD.out.mono ?_;rintro e w3 ⟨f3,h3⟩;obtain rfl:=h3.elim (fun h=>h.2) (fun h=>absurd h.1 H0.out);have HF3:=Lib.hid f3;clear h3 f3)
  refine bodyPost_ret (results_tmp2 rfl _ _ _) rfl ?_
  exact ⟨_,[],none,0,[],rfl,.noDir H0.out,HF2.out.step0 HF3.out,fun _=>⟨rfl,rfl,rfl⟩,fun h=>absurd h H0.out⟩
end Go.Proofs.YtnkdnbjmhoegkaaGreat
