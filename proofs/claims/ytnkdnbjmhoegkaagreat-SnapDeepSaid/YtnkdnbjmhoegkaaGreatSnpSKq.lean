/- Plain: which objects a tree puts; what is loaded of them. Plain: two trees unlike in one name: how many directories are new. -/
import Derived.Test.YtnkdnbjmhoegkaaGreatSnpPKq
set_option linter.unusedVariables false
set_option linter.unusedSimpArgs false
namespace Go.Proofs.YtnkdnbjmhoegkaaGreat
theorem hgt_succ {rs:List RwP}:∀ (k:Nat) (p:St),hgtZ rs k p → hgtZ rs (k + 1) p
 | 0,p,h=>fun r hr=>by
  have h:kidsZ rs p = []:=h
  rw [h] at hr;cases hr
 | k + 1,p,h=>fun r hr=>hgt_succ k _ (h r hr)
theorem hgt_node {rs:List RwP} (T:TreeOk rs) {r:RwP} (hr:r ∈ rs):hgtZ rs rs.length r.Node:=by
 obtain ⟨j,hj⟩:=lev_row T hr
 exact hgt_lev T rs.length (j + 1) r.Node hj (by omega)
section
variable {H:List UInt8 → ID} {rs:List RwP}
theorem its_succ:∀ (k:Nat) (p:St),hgtZ rs k p → itsZ H rs (k + 1) p = itsZ H rs k p
 | 0,p,h=>by
  have h:kidsZ rs p = []:=h
  show (kidsZ rs p).map _ = []
  rw [h];rfl
 | k + 1,p,h=>by
  show (kidsZ rs p).map (fun r=>itR r (nmZ H (itsZ H rs (k + 1) r.Node))) = (kidsZ rs p).map fun r=>itR r (nmZ H (itsZ H rs k r.Node))
  exact List.map_congr_left fun r hr=>by rw [its_succ k _ (h r hr)]
theorem its_le {k j:Nat} (hj:k ≤ j) {p:St} (h:hgtZ rs k p):itsZ H rs j p = itsZ H rs k p ∧ hgtZ rs j p:=by
 induction hj with
 | refl=>exact ⟨rfl,h⟩
 | step _ ih=>exact ⟨(its_succ _ _ ih.2).trans ih.1,hgt_succ _ _ ih.2⟩
variable (H rs) in
def dirZ (p:St):List It:=itsZ H rs rs.length p
theorem its_dir (T:TreeOk rs) {k:Nat} {p:St} (h:hgtZ rs k p) (h2:hgtZ rs rs.length p):itsZ H rs k p = dirZ H rs p:=by
 rcases Nat.le_total k rs.length with hl | hl
 ·exact ((its_le hl h).1).symm
 ·exact (its_le hl h2).1
theorem dir_eq (T:TreeOk rs) {p:St} (h:hgtZ rs rs.length p):dirZ H rs p = (kidsZ rs p).map fun r=>itR r (nmZ H (dirZ H rs r.Node)):=by
 have h1:=its_succ (H:=H) _ _ h
 show itsZ H rs rs.length p = _
 rw [← h1]
 rfl
theorem mem_puts (T:TreeOk rs) {b:List UInt8}:∀ (k:Nat) (p:St),hgtZ rs k p → (b ∈ putsZ H rs k p ↔ ∃ r ∈ dfsZ rs k p,b ∈ dpZ (dirZ H rs r.Node))
 | 0,p,h=>by simp [putsZ,dfsZ]
 | k + 1,p,h=>by
  simp only [putsZ,dfsZ,List.mem_flatMap,List.mem_append]
  constructor
  ·rintro ⟨r,hr,hb⟩
   have hrs:=(mem_kids.1 hr).1
   rcases hb with hb | hb
   ·obtain ⟨q,hq,hqb⟩:=(mem_puts T k r.Node (h r hr)).1 hb
    exact ⟨q,⟨r,hr,List.mem_cons_of_mem _ hq⟩,hqb⟩
   ·rw [its_dir T (h r hr) (hgt_node T hrs)] at hb
    exact ⟨r,⟨r,hr,by simp⟩,hb⟩
  ·rintro ⟨q,⟨r,hr,hq⟩,hb⟩
   have hrs:=(mem_kids.1 hr).1
   refine ⟨r,hr,?_⟩
   rcases List.mem_cons.1 hq with rfl | hq
   ·rw [its_dir T (h q hr) (hgt_node T hrs)]
    exact .inr hb
   ·exact .inl ((mem_puts T k r.Node (h r hr)).2 ⟨q,hq,hb⟩)
variable (H rs) in
def fullZ (p:St):List It:=if p = zSt then rootZ H rs else dirZ H rs p
theorem full_zero:fullZ H rs zSt = rootZ H rs:=by unfold fullZ;rw [if_pos rfl]
theorem full_ne {p:St} (h:p ≠ zSt):fullZ H rs p = dirZ H rs p:=by unfold fullZ;rw [if_neg h]
variable (rs) in
def placesZ:List St:=zSt :: trS :: rs.map (·.Node)
theorem root_ne:rootZ H rs ≠ []:=by unfold rootZ;simp
theorem mem_dp {l:List It} {b:List UInt8}:b ∈ dpZ l ↔ l ≠ [] ∧ b = drB l:=by
 unfold dpZ
 cases l with
 | nil=>simp
 | cons x l=>simp
theorem node_ne (T:TreeOk rs) {r:RwP} (hr:r ∈ rs):r.Node ≠ zSt ∧ r.Node ≠ trS:=⟨fun e=>T.T r hr (by rw [e];rfl),fun e=>T.T r hr (by rw [e];rfl)⟩
theorem mem_all (T:TreeOk rs) {b:List UInt8}:b ∈ allZ H rs ↔ ∃ p ∈ placesZ rs,fullZ H rs p ≠ [] ∧ b = drB (fullZ H rs p):=by
 have hz:=hgt_fixed T (p:=zSt) rfl
 have ht:=hgt_fixed T (p:=trS) rfl
 have hp:=(dfs_perm T).1
 have hm:∀ r,r ∈ rs ↔ r ∈ dfsZ rs rs.length zSt ∨ r ∈ dfsZ rs rs.length trS:=fun r=>by rw [← hp.mem_iff,List.mem_append]
 unfold allZ
 simp only [List.mem_append,List.mem_singleton,mem_puts T _ _ hz,mem_puts T _ _ ht]
 constructor
 ·rintro (((⟨r,hr,hb⟩ | hb) | ⟨r,hr,hb⟩) | rfl)
  ·have hrs:=(hm r).2 (.inr hr)
   obtain ⟨h1,h2⟩:=mem_dp.1 hb
   refine ⟨r.Node,by unfold placesZ;simp;exact .inr (.inr ⟨r,hrs,rfl⟩),?_⟩
   rw [full_ne (node_ne T hrs).1];exact ⟨h1,h2⟩
  ·obtain ⟨h1,h2⟩:=mem_dp.1 hb
   refine ⟨trS,by unfold placesZ;simp,?_⟩
   rw [full_ne (by decide)];exact ⟨h1,h2⟩
  ·have hrs:=(hm r).2 (.inl hr)
   obtain ⟨h1,h2⟩:=mem_dp.1 hb
   refine ⟨r.Node,by unfold placesZ;simp;exact .inr (.inr ⟨r,hrs,rfl⟩),?_⟩
   rw [full_ne (node_ne T hrs).1];exact ⟨h1,h2⟩
  ·exact ⟨zSt,by unfold placesZ;simp,by rw [full_zero];exact root_ne,by rw [full_zero]⟩
 ·rintro ⟨p,hpl,h1,h2⟩
  unfold placesZ at hpl
  simp only [List.mem_cons,List.mem_map] at hpl
  rcases hpl with rfl | rfl | ⟨r,hr,rfl⟩
  ·rw [full_zero] at h2;exact .inr h2
  ·rw [full_ne (by decide)] at h1 h2;exact .inl (.inl (.inr (mem_dp.2 ⟨h1,h2⟩)))
  ·rw [full_ne (node_ne T hr).1] at h1 h2
   rcases (hm r).1 hr with h | h
   ·exact .inl (.inr ⟨r,h,mem_dp.2 ⟨h1,h2⟩⟩)
   ·exact .inl (.inl (.inl ⟨r,h,mem_dp.2 ⟨h1,h2⟩⟩))
def NarrowZ (rs:List RwP):Prop:=∀ p,(kidsZ rs p).length ≤ 999
theorem right_full (T:TreeOk rs) (N:NarrowZ rs) (p:St):rightDr (fullZ H rs p) = true:=by
 unfold fullZ
 split
 ·exact right_root T (N zSt)
 ·exact right_its T (Nat.le_trans (N p) (by decide))
theorem full_inj (T:TreeOk rs) (N:NarrowZ rs) {rt:List RwP} (T':TreeOk rt) (N':NarrowZ rt) {p q:St} (h:drB (fullZ H rs p) = drB (fullZ H rt q)):fullZ H rs p = fullZ H rt q:=by
 have h1:=Rt.dr (right_full (H:=H) T N p)
 have h2:=Rt.dr (right_full (H:=H) T' N' q)
 rw [h,h2] at h1
 injection h1 with h1
 exact h1.symm
inductive LdZ (D:ID → Int × List It):ID → Int → List RwP → Prop
 | noDir {id}:(D id).1 ≠ 0 → LdZ D id (D id).1 []
 | bad {id l x}:(D id).1 = 0 → (D id).2 = l ++ [x] → ¬ (x.Node = lastS ∧ x.At = lastS ∧ x.Name = trashB ∧ x.Heads = []) → LdZ D id 130 []
 | under {id l x e acc}:(D id).1 = 0 → (D id).2 = l ++ [x] → (x.Node = lastS ∧ x.At = lastS ∧ x.Name = trashB ∧ x.Heads = []) → Und D zSt l [] e acc → e ≠ 0 → LdZ D id e []
 | noSub {id l x acc}:(D id).1 = 0 → (D id).2 = l ++ [x] → (x.Node = lastS ∧ x.At = lastS ∧ x.Name = trashB ∧ x.Heads = []) → Und D zSt l [] 0 acc → x.Sub = zID → LdZ D id 0 acc
 | subE {id l x acc}:(D id).1 = 0 → (D id).2 = l ++ [x] → (x.Node = lastS ∧ x.At = lastS ∧ x.Name = trashB ∧ x.Heads = []) → Und D zSt l [] 0 acc → x.Sub ≠ zID → (D x.Sub).1 ≠ 0 → LdZ D id (D x.Sub).1 []
 | trashE {id l x acc e acc'}:(D id).1 = 0 → (D id).2 = l ++ [x] → (x.Node = lastS ∧ x.At = lastS ∧ x.Name = trashB ∧ x.Heads = []) → Und D zSt l [] 0 acc → x.Sub ≠ zID → (D x.Sub).1 = 0 → Und D trS (D x.Sub).2 acc e acc' → e ≠ 0 → LdZ D id e []
 | all {id l x acc acc'}:(D id).1 = 0 → (D id).2 = l ++ [x] → (x.Node = lastS ∧ x.At = lastS ∧ x.Name = trashB ∧ x.Heads = []) → Und D zSt l [] 0 acc → x.Sub ≠ zID → (D x.Sub).1 = 0 → Und D trS (D x.Sub).2 acc 0 acc' → LdZ D id 0 acc'
theorem dirO_full (T:TreeOk rs) (N:NarrowZ rs) {objs:List (List UInt8)} (C:NoClash H objs) (hm:∀ b ∈ allZ H rs,b ∈ objs) {p:St} (hp:p ∈ placesZ rs) (hne:fullZ H rs p ≠ []):dirO H objs (H (drB (fullZ H rs p))) = (0,fullZ H rs p) ∧ H (drB (fullZ H rs p)) ≠ zID:=by
 have hb:=hm _ ((mem_all T).2 ⟨p,hp,hne,rfl⟩)
 refine ⟨?_,C.nz _ hb⟩
 unfold dirO
 rw [C.find hb]
 simp only
 rw [Rt.dr (right_full T N p)]
 simp only
 rw [if_neg (by simpa using hne)]
theorem nm_ne {l:List It} (h:l ≠ []):nmZ H l = H (drB l):=by
 unfold nmZ
 rw [if_neg (by simpa using h)]
theorem load_good (T:TreeOk rs) (N:NarrowZ rs) {objs:List (List UInt8)} (C:NoClash H objs) (hm:∀ b ∈ allZ H rs,b ∈ objs) {e:Int} {acc:List RwP} (h:LdZ (dirO H objs) (saveZ H rs) e acc):e = 0 ∧ acc.Perm rs:=by
 have hz:=hgt_fixed T (p:=zSt) rfl
 have ht:=hgt_fixed T (p:=trS) rfl
 obtain ⟨hperm,hpw⟩:=dfs_perm T
 have hroot:dirO H objs (saveZ H rs) = (0,rootZ H rs):=by
  have:=(dirO_full T N C hm (p:=zSt) (by unfold placesZ;simp) (by rw [full_zero];exact root_ne)).1
  rw [full_zero] at this
  exact this
 have hD:∀ k p,hgtZ rs k p → itsZ H rs k p ≠ [] → (∃ r ∈ rs,r.Node = p) → dirO H objs (nmZ H (itsZ H rs k p)) = (0,itsZ H rs k p) ∧ nmZ H (itsZ H rs k p) ≠ zID:=fun k p hk hne ⟨r,hr,hrp⟩=>by
  rw [nm_ne hne]
  have e1:itsZ H rs k p = fullZ H rs p:=by rw [its_dir T hk (by rw [← hrp];exact hgt_node T hr),full_ne (by rw [← hrp];exact (node_ne T hr).1)]
  rw [e1] at hne ⊢
  exact dirO_full T N C hm (by unfold placesZ;simp;exact .inr (.inr ⟨r,hr,hrp⟩)) hne
 have h1:∀ e acc,Und (dirO H objs) zSt (itsZ H rs rs.length zSt) [] e acc → e = 0 ∧ acc = dfsZ rs rs.length zSt:=fun e acc hu=>by
  cases hn:rs.length with
  | zero =>
   rw [hn] at hu
   cases hu
   exact ⟨rfl,rfl⟩
  | succ k =>
   rw [hn] at hu hz
   have:=und_good T hD k zSt (kidsZ rs zSt) [] e acc (fun r hr=>hr) hz (by
    have:=dfs_nd T (k + 1) zSt 0 (lev_fixed rfl)
    simpa [dfsZ] using this) (by simp) hu
   simpa [dfsZ] using this
 have h2:∀ e acc,Und (dirO H objs) trS (itsZ H rs rs.length trS) (dfsZ rs rs.length zSt) e acc → e = 0 ∧ acc = dfsZ rs rs.length zSt ++ dfsZ rs rs.length trS:=fun e acc hu=>by
  cases hn:rs.length with
  | zero =>
   rw [hn] at hu
   cases hu
   exact ⟨rfl,rfl⟩
  | succ k =>
   rw [hn] at hu ht hpw
   have:=und_good T hD k trS (kidsZ rs trS) (dfsZ rs (k + 1) zSt) e acc (fun r hr=>hr) ht (by simpa [dfsZ] using hpw) (fun r hr=>dfs_sub _ _ _ hr) hu
   simpa [dfsZ] using this
 have hsplit:∀ {l:List It} {x:It},(dirO H objs (saveZ H rs)).2 = l ++ [x] → l = itsZ H rs rs.length zSt ∧ x = trashI (nmZ H (itsZ H rs rs.length trS)):=fun {l x} hs=>by
  rw [hroot] at hs
  have hs:rootZ H rs = l ++ [x]:=hs
  unfold rootZ at hs
  obtain ⟨e1,e2⟩:=List.append_inj' hs rfl
  injection e2 with e2 _
  exact ⟨e1.symm,e2.symm⟩
 have hok:(trashI (nmZ H (itsZ H rs rs.length trS))).Node = lastS ∧ (trashI (nmZ H (itsZ H rs rs.length trS))).At = lastS ∧ (trashI (nmZ H (itsZ H rs rs.length trS))).Name = trashB ∧ (trashI (nmZ H (itsZ H rs rs.length trS))).Heads = []:=⟨rfl,rfl,rfl,rfl⟩
 have hS:(trashI (nmZ H (itsZ H rs rs.length trS))).Sub = nmZ H (itsZ H rs rs.length trS):=rfl
 have htr:itsZ H rs rs.length trS ≠ [] → dirO H objs (nmZ H (itsZ H rs rs.length trS)) = (0,itsZ H rs rs.length trS) ∧ nmZ H (itsZ H rs rs.length trS) ≠ zID:=fun hne=>by
  rw [nm_ne hne]
  have e1:itsZ H rs rs.length trS = fullZ H rs trS:=by rw [full_ne (by decide)];rfl
  rw [e1] at hne ⊢
  exact dirO_full T N C hm (by unfold placesZ;simp) hne
 cases h with
 | noDir h0=>rw [hroot] at h0;exact absurd rfl h0
 | bad _ hs hb =>
  obtain ⟨rfl,rfl⟩:=hsplit hs
  exact absurd hok hb
 | under _ hs _ hu hne =>
  obtain ⟨rfl,rfl⟩:=hsplit hs
  exact absurd (h1 _ _ hu).1 hne
 | noSub _ hs _ hu hz0 =>
  obtain ⟨rfl,rfl⟩:=hsplit hs
  rw [hS] at hz0
  have hemp:itsZ H rs rs.length trS = []:=by
   rcases Classical.em (itsZ H rs rs.length trS = []) with h | h
   ·exact h
   ·exact absurd hz0 (htr h).2
  refine ⟨rfl,?_⟩
  rw [(h1 _ _ hu).2]
  rw [its_nil hemp,List.append_nil] at hperm
  exact hperm
 | subE _ hs _ _ hne h0 =>
  obtain ⟨rfl,rfl⟩:=hsplit hs
  rw [hS] at hne h0
  have h3:itsZ H rs rs.length trS ≠ []:=fun e=>hne (by rw [e];rfl)
  rw [(htr h3).1] at h0
  exact absurd rfl h0
 | trashE _ hs _ hu hne h0 hu2 he =>
  obtain ⟨rfl,rfl⟩:=hsplit hs
  rw [hS] at hne hu2
  have h3:itsZ H rs rs.length trS ≠ []:=fun e=>hne (by rw [e];rfl)
  rw [(htr h3).1,(h1 _ _ hu).2] at hu2
  exact absurd (h2 _ _ hu2).1 he
 | all _ hs _ hu hne h0 hu2 =>
  obtain ⟨rfl,rfl⟩:=hsplit hs
  rw [hS] at hne hu2
  have h3:itsZ H rs rs.length trS ≠ []:=fun e=>hne (by rw [e];rfl)
  rw [(htr h3).1,(h1 _ _ hu).2] at hu2
  refine ⟨rfl,?_⟩
  rw [(h2 _ _ hu2).2]
  exact hperm
end
end Go.Proofs.YtnkdnbjmhoegkaaGreat
namespace Go.Proofs.YtnkdnbjmhoegkaaGreat
section
variable {H:List UInt8 → ID} {rs:List RwP}
inductive UpZ (rs:List RwP) (p:St):St → Prop
 | here:UpZ rs p p
 | up {q}:q ∈ rs → UpZ rs p q.Node → UpZ rs p q.Parent
 | root:UpZ rs p trS → UpZ rs p zSt
def topL (p:St):List St:=if p = trS then [trS,zSt] else [p]
def chainL (rs:List RwP):Nat → St → List St
 | 0,p=>topL p
 | k + 1,p=>match findR rs p with
  | none=>topL p
  | some q=>p :: chainL rs k q.Parent
theorem lev_not {p:St} {j:Nat} (h:levZ rs p (j + 1)):fixedS p = false:=h.2 0 (by omega)
theorem lev_find (T:TreeOk rs) {p:St} {j:Nat} (h:levZ rs p (j + 1)):∃ q,findR rs p = some q ∧ q ∈ rs ∧ q.Node = p ∧ levZ rs q.Parent j:=by
 have h1:=h.1
 unfold reach at h1
 rw [lev_not h,Bool.false_or] at h1
 cases hf:findR rs p with
 | none=>rw [hf] at h1;cases h1
 | some q =>
  obtain ⟨hq,hn⟩:=findR_some hf
  exact ⟨q,rfl,hq,hn,lev_par T hq (by rw [hn];exact h)⟩
theorem chain_lev (T:TreeOk rs):∀ (j:Nat) (p:St),levZ rs p j → ∀ x ∈ chainL rs j p,∃ i,i ≤ j ∧ levZ rs x i
 | 0,p,h,x,hx=>by
  have hp:=fixed_two h.1
  unfold chainL topL at hx
  refine ⟨0,Nat.le_refl _,lev_fixed ?_⟩
  split at hx
  ·simp at hx;rcases hx with rfl | rfl <;> rfl
  ·simp at hx;subst hx;exact h.1
 | j + 1,p,h,x,hx=>by
  obtain ⟨q,hf,hq,hn,hl⟩:=lev_find T h
  have e:chainL rs (j + 1) p = p :: chainL rs j q.Parent:=by
   show (match findR rs p with | none=>topL p | some q=>p :: chainL rs j q.Parent) = _
   rw [hf]
  rw [e] at hx
  rcases List.mem_cons.1 hx with rfl | hx
  ·exact ⟨j + 1,Nat.le_refl _,h⟩
  ·obtain ⟨i,hi,hl⟩:=chain_lev T j _ hl x hx
   exact ⟨i,by omega,hl⟩
theorem chain_nd (T:TreeOk rs):∀ (j:Nat) (p:St),levZ rs p j → (chainL rs j p).Nodup
 | 0,p,h=>by
  unfold chainL topL
  split
  ·decide
  ·simp
 | j + 1,p,h=>by
  obtain ⟨q,hf,hq,hn,hl⟩:=lev_find T h
  have e:chainL rs (j + 1) p = p :: chainL rs j q.Parent:=by
   show (match findR rs p with | none=>topL p | some q=>p :: chainL rs j q.Parent) = _
   rw [hf]
  rw [e,List.nodup_cons]
  refine ⟨fun hx=>?_,chain_nd T j _ hl⟩
  obtain ⟨i,hi,hx⟩:=chain_lev T j _ hl p hx
  have:=hx.uniq h
  omega
theorem UpZ.trans {p q:St} (h:UpZ rs p q) {x:St} (k:UpZ rs q x):UpZ rs p x:=by
 induction k with
 | here=>exact h
 | up hq _ ih=>exact .up hq ih
 | root _ ih=>exact .root ih
theorem chain_up (T:TreeOk rs):∀ (j:Nat) (p:St),levZ rs p j → ∀ x ∈ chainL rs j p,UpZ rs p x
 | 0,p,h,x,hx=>by
  unfold chainL topL at hx
  split at hx
  ·rename_i hp
   subst hp
   simp at hx
   rcases hx with rfl | rfl
   ·exact .here
   ·exact .root .here
  ·simp at hx;subst hx;exact .here
 | j + 1,p,h,x,hx=>by
  obtain ⟨q,hf,hq,hn,hl⟩:=lev_find T h
  have e:chainL rs (j + 1) p = p :: chainL rs j q.Parent:=by
   show (match findR rs p with | none=>topL p | some q=>p :: chainL rs j q.Parent) = _
   rw [hf]
  rw [e] at hx
  rcases List.mem_cons.1 hx with rfl | hx
  ·exact .here
  ·refine UpZ.trans (q:=q.Parent) (.up hq (by rw [hn];exact .here)) (chain_up T j _ hl x hx)
theorem chain_head (j:Nat) (p:St):p ∈ chainL rs j p:=by
 cases j with
 | zero =>
  unfold chainL topL
  split
  ·rename_i h;rw [h];simp
  ·simp
 | succ j =>
  show p ∈ (match findR rs p with | none=>topL p | some q=>p :: chainL rs j q.Parent)
  split
  ·unfold topL
   split
   ·rename_i h;rw [h];simp
   ·simp
  ·simp
theorem chain_close (T:TreeOk rs):∀ (j:Nat) (p:St),levZ rs p j → (∀ q ∈ rs,q.Node ∈ chainL rs j p → q.Parent ∈ chainL rs j p) ∧ (trS ∈ chainL rs j p → zSt ∈ chainL rs j p)
 | 0,p,h=>by
  refine ⟨fun q hq hx=>?_,fun hx=>?_⟩
  ·exfalso
   have hf:fixedS q.Node = true:=by
    unfold chainL topL at hx
    split at hx
    ·simp at hx;rcases hx with e | e <;> rw [e] <;> rfl
    ·simp at hx;rw [hx];exact h.1
   rw [fixed_not (T.T q hq)] at hf;cases hf
  ·unfold chainL topL at hx ⊢
   split at hx
   ·rename_i hp;rw [if_pos hp];simp
   ·rename_i hp;simp at hx;exact absurd hx.symm hp
 | j + 1,p,h=>by
  obtain ⟨q0,hf,hq0,hn,hl⟩:=lev_find T h
  have e:chainL rs (j + 1) p = p :: chainL rs j q0.Parent:=by
   show (match findR rs p with | none=>topL p | some q=>p :: chainL rs j q.Parent) = _
   rw [hf]
  obtain ⟨i1,i2⟩:=chain_close T j _ hl
  rw [e]
  refine ⟨fun q hq hx=>?_,fun hx=>?_⟩
  ·rcases List.mem_cons.1 hx with hx | hx
   ·have:q = q0:=by
     have h1:=findR_mem T.nd hq
     rw [hx,hf] at h1
     injection h1 with h1;exact h1.symm
    subst this
    exact List.mem_cons_of_mem _ (chain_head _ _)
   ·exact List.mem_cons_of_mem _ (i1 q hq hx)
  ·rcases List.mem_cons.1 hx with hx | hx
   ·have:=lev_not h
    rw [← hx] at this
    cases this
   ·exact List.mem_cons_of_mem _ (i2 hx)
theorem mem_chain (T:TreeOk rs) {j:Nat} {p:St} (h:levZ rs p j) {x:St}:x ∈ chainL rs j p ↔ UpZ rs p x:=by
 refine ⟨chain_up T j p h x,fun k=>?_⟩
 obtain ⟨c1,c2⟩:=chain_close T j p h
 induction k with
 | here=>exact chain_head _ _
 | up hq _ ih=>exact c1 _ hq ih
 | root _ ih=>exact c2 ih
theorem up_root (T:TreeOk rs) {j:Nat} {p:St} (h:levZ rs p j):UpZ rs p zSt:=by
 rw [← mem_chain T h]
 have hc:=chain_close T j p h
 have:∀ (j:Nat) (p:St),levZ rs p j → zSt ∈ chainL rs j p:=fun j=>by
  induction j with
  | zero =>
   intro p h
   unfold chainL topL
   rcases fixed_two h.1 with rfl | rfl
   ·decide
   ·decide
  | succ j ih =>
   intro p h
   obtain ⟨q,hf,hq,hn,hl⟩:=lev_find T h
   show zSt ∈ (match findR rs p with | none=>topL p | some q=>p :: chainL rs j q.Parent)
   rw [hf]
   exact List.mem_cons_of_mem _ (ih _ hl)
 exact this j p h
end
/-! the turned tree -/
section
variable {H:List UInt8 → ID} {rs:List RwP} {f:RwP → RwP}
structure Stays (f:RwP → RwP):Prop where
 node:∀ r,(f r).Node = r.Node
 par:∀ r,(f r).Parent = r.Parent
theorem kids_map (S:Stays f) (p:St):kidsZ (rs.map f) p = (kidsZ rs p).map f:=by
 unfold kidsZ
 rw [List.filter_map]
 congr 1
 exact List.filter_congr fun r _=>by simp [S.par]
theorem find_map (S:Stays f) (s:St):findR (rs.map f) s = (findR rs s).map f:=by
 unfold findR
 rw [List.find?_map]
 congr 1
 exact congrArg (fun g=>rs.find? g) (funext fun r=>by simp [S.node])
theorem reach_map (S:Stays f):∀ (k:Nat) (s:St),reach (rs.map f) k s = reach rs k s
 | 0,s=>rfl
 | k + 1,s=>by
  show (fixedS s || match findR (rs.map f) s with | none=>false | some r=>reach (rs.map f) k r.Parent) = (fixedS s || match findR rs s with | none=>false | some r=>reach rs k r.Parent)
  rw [find_map S]
  cases findR rs s with
  | none=>rfl
  | some r=>simp only [Option.map_some];rw [S.par,reach_map S k]
theorem tree_map (S:Stays f) (T:TreeOk rs) (h:∀ r ∈ rs,rightR (f r) = true):TreeOk (rs.map f):=by
 refine ⟨by rw [List.length_map];exact T.len,fun r hr=>?_,?_,fun r hr=>?_⟩
 ·obtain ⟨q,hq,rfl⟩:=List.mem_map.1 hr
  exact h q hq
 ·have:=riseR_pw T.rise
  unfold riseR
  rw [riseB_pw (fun a b:RwP=>cmpS a.Node b.Node) (fun _ _ _=>cmpS_trans),List.pairwise_map]
  exact this.imp fun h=>by rw [S.node,S.node];exact h
 ·obtain ⟨q,hq,rfl⟩:=List.mem_map.1 hr
  obtain ⟨k,hk⟩:=T.up q hq
  exact ⟨k,by rw [reach_map S,S.node];exact hk⟩
theorem hgt_map (S:Stays f):∀ (k:Nat) (p:St),hgtZ rs k p → hgtZ (rs.map f) k p
 | 0,p,h=>by
  have h:kidsZ rs p = []:=h
  show kidsZ (rs.map f) p = []
  rw [kids_map S,h];rfl
 | k + 1,p,h=>fun r hr=>by
  rw [kids_map S] at hr
  obtain ⟨q,hq,rfl⟩:=List.mem_map.1 hr
  rw [S.node];exact hgt_map S k _ (h q hq)
theorem dir_map (S:Stays f) (T:TreeOk (rs.map f)) {p:St} (h:hgtZ rs rs.length p):dirZ H (rs.map f) p = (kidsZ rs p).map fun r=>itR (f r) (nmZ H (dirZ H (rs.map f) r.Node)):=by
 rw [dir_eq T (by rw [List.length_map];exact hgt_map S _ _ h),kids_map S,List.map_map]
 refine List.map_congr_left fun r _=>?_
 simp only [Function.comp_apply,S.node]
theorem dir_same (S:Stays f) (T:TreeOk rs) (T':TreeOk (rs.map f)) {p0:St} (hp0:∀ r ∈ rs,f r ≠ r → r.Parent = p0):∀ (k:Nat) (p:St),hgtZ rs k p → hgtZ rs rs.length p → ¬ UpZ rs p0 p → dirZ H (rs.map f) p = dirZ H rs p
 | 0,p,h,h2,hn=>by
  have h:kidsZ rs p = []:=h
  rw [dir_map S T' h2,dir_eq T h2,h];rfl
 | k + 1,p,h,h2,hn=>by
  rw [dir_map S T' h2,dir_eq T h2]
  refine List.map_congr_left fun r hr=>?_
  have hrk:=mem_kids.1 hr
  have e1:f r = r:=by
   rcases Classical.em (f r = r) with e | e
   ·exact e
   ·exact absurd (by rw [← hrk.2,hp0 r hrk.1 e];exact .here) hn
  have e2:dirZ H (rs.map f) r.Node = dirZ H rs r.Node:=dir_same S T T' hp0 k r.Node (h r hr) (hgt_node T hrk.1) fun hu=>hn (by rw [← hrk.2];exact .up hrk.1 hu)
  rw [e1,e2]
theorem mem_full {p:St} {x:It} (T:TreeOk rs) (h2:hgtZ rs rs.length p):x ∈ fullZ H rs p ↔ (∃ r ∈ kidsZ rs p,x = itR r (nmZ H (dirZ H rs r.Node))) ∨ (p = zSt ∧ x = trashI (nmZ H (dirZ H rs trS))):=by
 have e:∀ p,hgtZ rs rs.length p → (x ∈ dirZ H rs p ↔ ∃ r ∈ kidsZ rs p,x = itR r (nmZ H (dirZ H rs r.Node))):=fun p h=>by
  rw [dir_eq T h,List.mem_map]
  exact ⟨fun ⟨r,h1,h2⟩=>⟨r,h1,h2.symm⟩,fun ⟨r,h1,h2⟩=>⟨r,h1,h2.symm⟩⟩
 unfold fullZ
 split
 ·rename_i hp
  subst hp
  unfold rootZ
  rw [List.mem_append,List.mem_singleton]
  show x ∈ dirZ H rs zSt ∨ x = trashI (nmZ H (dirZ H rs trS)) ↔ _
  rw [e _ h2]
  simp
 ·rename_i hp
  rw [e _ h2]
  simp [hp]
theorem place_hgt (T:TreeOk rs) {p:St} (h:p ∈ placesZ rs):hgtZ rs rs.length p:=by
 unfold placesZ at h
 simp only [List.mem_cons,List.mem_map] at h
 rcases h with rfl | rfl | ⟨r,hr,rfl⟩
 ·exact hgt_fixed T rfl
 ·exact hgt_fixed T rfl
 ·exact hgt_node T hr
theorem up_place (T:TreeOk rs) {p0 p:St} (h0:p0 ∈ placesZ rs) (h:UpZ rs p0 p):p ∈ placesZ rs:=by
 induction h with
 | here=>exact h0
 | up hq _ _=>exact par_place T hq
 | root _ _=>unfold placesZ;simp
where
 par_place (T:TreeOk rs) {q:RwP} (hq:q ∈ rs):q.Parent ∈ placesZ rs:=by
  obtain ⟨j,hj⟩:=lev_row T hq
  have hl:=lev_par T hq hj
  unfold placesZ
  cases j with
  | zero=>rcases fixed_two hl.1 with e | e <;> rw [e] <;> simp
  | succ j =>
   obtain ⟨x,_,hx,hn,_⟩:=lev_find T hl
   simp only [List.mem_cons,List.mem_map]
   exact .inr (.inr ⟨x,hx,hn⟩)
theorem node_uniq (T:TreeOk rs) {a b:RwP} (ha:a ∈ rs) (hb:b ∈ rs) (e:a.Node = b.Node):a = b:=by
 have h1:=findR_mem T.nd ha
 rw [e,findR_mem T.nd hb] at h1
 injection h1 with h1;exact h1.symm
theorem way_new (S:Stays f) (T:TreeOk rs) (T':TreeOk (rs.map f)) (N:NarrowZ rs) (N':NarrowZ (rs.map f)) {r0:RwP} (hr0:r0 ∈ rs) (hnm:(f r0).Name ≠ r0.Name) {objs:List (List UInt8)} (C:NoClash H objs) (hm:∀ b ∈ allZ H rs,b ∈ objs) (hm':∀ b ∈ allZ H (rs.map f),b ∈ objs) {p:St} (h:UpZ rs r0.Parent p) :
  fullZ H (rs.map f) p ≠ [] ∧ drB (fullZ H (rs.map f) p) ∉ allZ H rs:=by
 have hpl0:=up_place.par_place T hr0
 have hplM:∀ {p},p ∈ placesZ rs → p ∈ placesZ (rs.map f):=fun {p} h=>by
  unfold placesZ at h ⊢
  rw [List.map_map]
  have:(rs.map ((·.Node) ∘ f)) = rs.map (·.Node):=List.map_congr_left fun r _=>S.node r
  rw [this];exact h
 have kid:∀ q ∈ rs,itR (f q) (nmZ H (dirZ H (rs.map f) q.Node)) ∈ fullZ H (rs.map f) q.Parent:=fun q hq=>by
  rw [mem_full T' (place_hgt T' (hplM (up_place.par_place T hq)))]
  refine .inl ⟨f q,mem_kids.2 ⟨List.mem_map.2 ⟨q,hq,rfl⟩,S.par q⟩,?_⟩
  rw [S.node]
 have old:∀ {p q:St},q ∈ placesZ rs → drB (fullZ H (rs.map f) p) = drB (fullZ H rs q) → ∀ x ∈ fullZ H (rs.map f) p,(∃ r ∈ kidsZ rs q,x = itR r (nmZ H (dirZ H rs r.Node))) ∨ (q = zSt ∧ x = trashI (nmZ H (dirZ H rs trS))):=fun {p q} hq e x hx=>by
  rw [full_inj T' N' T N e] at hx
  exact (mem_full T (place_hgt T hq)).1 hx
 have subs:∀ {p:St},p ∈ placesZ rs → p ≠ zSt → dirZ H (rs.map f) p ≠ [] → drB (fullZ H (rs.map f) p) ∉ allZ H rs → nmZ H (dirZ H (rs.map f) p) ≠ nmZ H (dirZ H rs p):=fun {p} hp hz hne hnot e=>by
  have hf:fullZ H (rs.map f) p = dirZ H (rs.map f) p:=full_ne hz
  have hin:drB (dirZ H (rs.map f) p) ∈ objs:=by
   rw [← hf]
   exact hm' _ ((mem_all T').2 ⟨p,hplM hp,by rw [hf];exact hne,rfl⟩)
  rw [nm_ne hne] at e
  by_cases hne2:dirZ H rs p = []
  ·rw [hne2] at e
   exact C.nz _ hin e
  ·rw [nm_ne hne2] at e
   have hin2:drB (dirZ H rs p) ∈ allZ H rs:=(mem_all T).2 ⟨p,hp,by rw [full_ne hz];exact hne2,by rw [full_ne hz]⟩
   have:=C.inj _ hin _ (hm _ hin2) e
   rw [← this,← hf] at hin2
   exact hnot hin2
 have hpl:=up_place T hpl0 h
 have ht0:trS ≠ zSt:=by decide
 induction h with
 | here =>
  have hk:=kid r0 hr0
  refine ⟨fun e=>(by rw [e] at hk;cases hk),fun hin=>?_⟩
  obtain ⟨q,hq,_,e⟩:=(mem_all T).1 hin
  rcases old hq e _ hk with ⟨r,hr,e2⟩ | ⟨_,e2⟩
  ·have hn:(f r0).Node = r.Node:=congrArg It.Node e2
   have hnm2:(f r0).Name = r.Name:=congrArg It.Name e2
   rw [S.node] at hn
   have:=node_uniq T hr0 (mem_kids.1 hr).1 hn
   subst this
   exact hnm hnm2
  ·have hn:(f r0).Node = lastS:=congrArg It.Node e2
   rw [S.node] at hn
   exact rightR_last (T.ok r0 hr0) hn
 | @up q0 hq0 hu ih =>
  have hpl1:=up_place T hpl0 hu
  obtain ⟨i1,i2⟩:=ih hpl1
  have hz:=(node_ne T hq0).1
  have hk:=kid q0 hq0
  refine ⟨fun e=>(by rw [e] at hk;cases hk),fun hin=>?_⟩
  obtain ⟨q,hq,_,e⟩:=(mem_all T).1 hin
  rw [full_ne hz] at i1
  rcases old hq e _ hk with ⟨r,hr,e2⟩ | ⟨_,e2⟩
  ·have hn:(f q0).Node = r.Node:=congrArg It.Node e2
   rw [S.node] at hn
   have:=node_uniq T hq0 (mem_kids.1 hr).1 hn
   subst this
   exact subs hpl1 hz i1 i2 (congrArg It.Sub e2)
  ·have hn:(f q0).Node = lastS:=congrArg It.Node e2
   rw [S.node] at hn
   exact rightR_last (T.ok q0 hq0) hn
 | root hu ih =>
  have hpl1:=up_place T hpl0 hu
  obtain ⟨i1,i2⟩:=ih hpl1
  have hk:trashI (nmZ H (dirZ H (rs.map f) trS)) ∈ fullZ H (rs.map f) zSt:=(mem_full T' (hgt_fixed T' rfl)).2 (.inr ⟨rfl,rfl⟩)
  refine ⟨fun e=>(by rw [e] at hk;cases hk),fun hin=>?_⟩
  obtain ⟨q,hq,_,e⟩:=(mem_all T).1 hin
  rw [full_ne ht0] at i1
  rcases old hq e _ hk with ⟨r,hr,e2⟩ | ⟨_,e2⟩
  ·have hn:lastS = r.Node:=congrArg It.Node e2
   exact rightR_last (T.ok r (mem_kids.1 hr).1) hn.symm
  ·exact subs hpl1 ht0 i1 i2 (congrArg It.Sub e2)
theorem full_diff (T:TreeOk rs) (N:NarrowZ rs) {p q:St} (hp:p ∈ placesZ rs) (hq:q ∈ placesZ rs) (hne:fullZ H rs p ≠ []) (e:drB (fullZ H rs p) = drB (fullZ H rs q)):p = q:=by
 have e2:=full_inj T N T N e
 obtain ⟨x,hx⟩:∃ x,x ∈ fullZ H rs p:=by
  cases h:fullZ H rs p with
  | nil=>exact absurd h hne
  | cons x l=>exact ⟨x,by simp⟩
 have hx':x ∈ fullZ H rs q:=by rw [← e2];exact hx
 rcases (mem_full T (place_hgt T hp)).1 hx with ⟨r,hr,rfl⟩ | ⟨rfl,rfl⟩
 ·rcases (mem_full T (place_hgt T hq)).1 hx' with ⟨r',hr',e3⟩ | ⟨_,e3⟩
  ·have:=node_uniq T (mem_kids.1 hr).1 (mem_kids.1 hr').1 (congrArg It.Node e3)
   subst this
   rw [← (mem_kids.1 hr).2,← (mem_kids.1 hr').2]
  ·exact absurd (congrArg It.Node e3) (rightR_last (T.ok r (mem_kids.1 hr).1))
 ·rcases (mem_full T (place_hgt T hq)).1 hx' with ⟨r',hr',e3⟩ | ⟨rfl,_⟩
  ·exact absurd (congrArg It.Node e3).symm (rightR_last (T.ok r' (mem_kids.1 hr').1))
  ·rfl
theorem put_count (T:TreeOk rs) (N:NarrowZ rs) {S:List St} (hS:S.Nodup) (h:∀ p,p ∈ S ↔ p ∈ placesZ rs ∧ fullZ H rs p ≠ []):(putAll [] (allZ H rs)).length = S.length:=by
 have:=putAll_len (l:=allZ H rs) (o:=[]) (S:=S.map fun p=>drB (fullZ H rs p)) ?_ fun b=>?_
 ·simpa using this
 ·rw [List.Nodup,List.pairwise_map]
  refine List.Pairwise.imp_of_mem (fun {a b} ha hb hne e=>hne ?_) hS
  exact full_diff T N ((h a).1 ha).1 ((h b).1 hb).1 ((h a).1 ha).2 e
 ·rw [List.mem_map,mem_all T]
  constructor
  ·rintro ⟨p,hp,rfl⟩
   exact ⟨⟨p,((h p).1 hp).1,((h p).1 hp).2,rfl⟩,by simp⟩
  ·rintro ⟨⟨p,h1,h2,e⟩,_⟩
   exact ⟨p,(h p).2 ⟨h1,h2⟩,e.symm⟩
theorem share_count (S:Stays f) (T:TreeOk rs) (T':TreeOk (rs.map f)) (N:NarrowZ rs) (N':NarrowZ (rs.map f)) {r0:RwP} (hr0:r0 ∈ rs) (hf:∀ r ∈ rs,f r ≠ r → r = r0) (hnm:(f r0).Name ≠ r0.Name) {j:Nat} (hj:levZ rs r0.Parent j) (C:NoClash H (putAll (putAll [] (allZ H rs)) (allZ H (rs.map f)))) :
  (putAll (putAll [] (allZ H rs)) (allZ H (rs.map f))).length = (putAll [] (allZ H rs)).length + (chainL rs j r0.Parent).length:=by
 have hm:∀ b ∈ allZ H rs,b ∈ putAll (putAll [] (allZ H rs)) (allZ H (rs.map f)):=fun b hb=>mem_putAll.2 (.inl (mem_putAll.2 (.inr hb)))
 have hm':∀ b ∈ allZ H (rs.map f),b ∈ putAll (putAll [] (allZ H rs)) (allZ H (rs.map f)):=fun b hb=>mem_putAll.2 (.inr hb)
 have hpl0:=up_place.par_place T hr0
 have hplM:∀ {p},p ∈ placesZ rs ↔ p ∈ placesZ (rs.map f):=fun {p}=>by
  unfold placesZ
  rw [List.map_map]
  have:(rs.map ((·.Node) ∘ f)) = rs.map (·.Node):=List.map_congr_left fun r _=>S.node r
  rw [this]
 have new:=fun p (h:p ∈ chainL rs j r0.Parent)=>way_new S T T' N N' hr0 hnm C hm hm' ((mem_chain T hj).1 h)
 have:=putAll_len (l:=allZ H (rs.map f)) (o:=putAll [] (allZ H rs)) (S:=(chainL rs j r0.Parent).map fun p=>drB (fullZ H (rs.map f) p)) ?_ fun b=>?_
 ·rw [this,List.length_map]
 ·rw [List.Nodup,List.pairwise_map]
  refine List.Pairwise.imp_of_mem (fun {a b} ha hb hne e=>hne ?_) (chain_nd T j _ hj)
  exact full_diff T' N' (hplM.1 (up_place T hpl0 ((mem_chain T hj).1 ha))) (hplM.1 (up_place T hpl0 ((mem_chain T hj).1 hb))) (new a ha).1 e
 ·rw [List.mem_map]
  constructor
  ·rintro ⟨p,hp,rfl⟩
   refine ⟨(mem_all T').2 ⟨p,hplM.1 (up_place T hpl0 ((mem_chain T hj).1 hp)),(new p hp).1,rfl⟩,fun h=>(new p hp).2 ?_⟩
   rcases mem_putAll.1 h with h | h
   ·cases h
   ·exact h
  ·rintro ⟨hb,hn⟩
   obtain ⟨p,hp,hne,e⟩:=(mem_all T').1 hb
   refine ⟨p,?_,e.symm⟩
   rcases Classical.em (p ∈ chainL rs j r0.Parent) with h | h
   ·exact h
   ·exfalso
    have hu:¬ UpZ rs r0.Parent p:=fun hu=>h ((mem_chain T hj).2 hu)
    have hz:p ≠ zSt:=fun e=>hu (by rw [e];exact up_root T hj)
    have hg:=place_hgt T (hplM.2 hp)
    have ed:=dir_same (H:=H) S T T' (p0:=r0.Parent) (fun r hr hne=>by rw [hf r hr hne]) rs.length p hg hg hu
    refine hn (mem_putAll.2 (.inr ((mem_all T).2 ⟨p,hplM.2 hp,?_,?_⟩)))
    ·rw [full_ne hz] at hne ⊢;rw [← ed];exact hne
    ·rw [e,full_ne hz,full_ne hz,ed]
end
end Go.Proofs.YtnkdnbjmhoegkaaGreat
