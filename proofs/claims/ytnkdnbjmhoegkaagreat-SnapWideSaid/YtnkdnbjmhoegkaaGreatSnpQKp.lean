/- Plain: a tree as directories: what is put, and what is loaded of it. Plain: which objects a tree puts; what is loaded of them. -/
import Derived.Test.YtnkdnbjmhoegkaaGreatRdQKp
import Derived.Test.YtnkdnbjmhoegkaaGreatPathPKp
import Derived.Test.YtnkdnbjmhoegkaaGreatShaRKp
set_option linter.unusedVariables false
set_option linter.unusedSimpArgs false
namespace Go.Proofs.YtnkdnbjmhoegkaaGreat
def kidsZ (rs:List RwP) (p:St):List RwP:=rs.filter fun r=>decide (r.Parent = p)
theorem mem_kids {rs:List RwP} {p:St} {r:RwP}:r ∈ kidsZ rs p ↔ r ∈ rs ∧ r.Parent = p:=by simp [kidsZ]
/-! levels -/
def levZ (rs:List RwP) (s:St) (j:Nat):Prop:=reach rs j s = true ∧ ∀ i,i < j → reach rs i s = false
theorem levZ.uniq {rs:List RwP} {s:St} {i j:Nat} (h:levZ rs s i) (h':levZ rs s j):i = j:=by
 rcases Nat.lt_trichotomy i j with hl | hl | hl
 ·have:=h'.2 i hl;rw [h.1] at this;cases this
 ·exact hl
 ·have:=h.2 j hl;rw [h'.1] at this;cases this
theorem lev_fixed {rs:List RwP} {s:St} (h:fixedS s = true):levZ rs s 0:=⟨h,fun i hi=>absurd hi (Nat.not_lt_zero i)⟩
theorem lev_some {rs:List RwP} {s:St} {k:Nat} (h:reach rs k s = true):∃ j,levZ rs s j:=by
 induction k using Nat.strongRecOn with
 | ind k ih =>
  by_cases hm:∀ j,j < k → reach rs j s = false
  ·exact ⟨k,h,hm⟩
  ·simp only [Classical.not_forall] at hm
   obtain ⟨j,hj,hr⟩:=hm
   exact ih j hj (by cases e:reach rs j s with | true=>rfl | false=>exact absurd e hr)
theorem levZ.le {rs:List RwP} {s:St} {j:Nat} (h:levZ rs s j):j ≤ rs.length:=by
 rcases Nat.lt_or_ge rs.length j with hl | hl
 ·have:=h.2 _ hl;rw [reach_len h.1] at this;cases this
 ·exact hl
theorem fixed_not {r:RwP} (h:r.Node.T ≠ 0):fixedS r.Node = false:=by unfold fixedS;simp [h]
theorem reach_up {rs:List RwP} (T:TreeOk rs) {r:RwP} (hr:r ∈ rs) (k:Nat):reach rs (k + 1) r.Node = reach rs k r.Parent:=by
 show (fixedS r.Node || match findR rs r.Node with | none=>false | some r=>reach rs k r.Parent) = _
 rw [findR_mem T.nd hr,fixed_not (T.T r hr)];rfl
theorem lev_kid {rs:List RwP} (T:TreeOk rs) {r:RwP} (hr:r ∈ rs) {j:Nat}:levZ rs r.Parent j → levZ rs r.Node (j + 1):=fun h=>by
 refine ⟨by rw [reach_up T hr];exact h.1,fun i hi=>?_⟩
 cases i with
 | zero=>exact fixed_not (T.T r hr)
 | succ i=>rw [reach_up T hr];exact h.2 i (by omega)
theorem lev_par {rs:List RwP} (T:TreeOk rs) {r:RwP} (hr:r ∈ rs) {j:Nat} (h:levZ rs r.Node (j + 1)):levZ rs r.Parent j :=
 ⟨by rw [← reach_up T hr];exact h.1,fun i hi=>by rw [← reach_up T hr];exact h.2 (i + 1) (by omega)⟩
theorem lev_row {rs:List RwP} (T:TreeOk rs) {r:RwP} (hr:r ∈ rs):∃ j,levZ rs r.Node (j + 1):=by
 obtain ⟨k,hk⟩:=T.up r hr
 obtain ⟨j,hj⟩:=lev_some hk
 cases j with
 | zero=>have h0:=hj.1;unfold reach at h0;rw [fixed_not (T.T r hr)] at h0;cases h0
 | succ j=>exact ⟨j,hj⟩
def hgtZ (rs:List RwP):Nat → St → Prop
 | 0,p=>kidsZ rs p = []
 | k + 1,p=>∀ r ∈ kidsZ rs p,hgtZ rs k r.Node
theorem hgt_lev {rs:List RwP} (T:TreeOk rs):∀ (d j:Nat) (s:St),levZ rs s j → rs.length ≤ j + d → hgtZ rs d s
 | 0,j,s,h,hd=>by
  show kidsZ rs s = []
  cases hk:kidsZ rs s with
  | nil=>rfl
  | cons r l =>
   have hr:=mem_kids.1 (show r ∈ kidsZ rs s by rw [hk];simp)
   have:=(lev_kid T hr.1 (by rw [hr.2];exact h)).le
   omega
 | d + 1,j,s,h,hd=>fun r hr=>by
  have hr:=mem_kids.1 hr
  exact hgt_lev T d (j + 1) r.Node (lev_kid T hr.1 (by rw [hr.2];exact h)) (by omega)
theorem hgt_fixed {rs:List RwP} (T:TreeOk rs) {p:St} (hp:fixedS p = true):hgtZ rs rs.length p:=hgt_lev T rs.length 0 p (lev_fixed hp) (by omega)
/-! all that lies under a place -/
def dfsZ (rs:List RwP):Nat → St → List RwP
 | 0,_=>[]
 | k + 1,p=>(kidsZ rs p).flatMap fun r=>r :: dfsZ rs k r.Node
theorem dfs_sub {rs:List RwP}:∀ (k:Nat) (p:St),∀ r ∈ dfsZ rs k p,r ∈ rs
 | 0,p,r,h=>by cases h
 | k + 1,p,r,h=>by
  simp only [dfsZ,List.mem_flatMap] at h
  obtain ⟨q,hq,h⟩:=h
  rcases List.mem_cons.1 h with rfl | h
  ·exact (mem_kids.1 hq).1
  ·exact dfs_sub k _ r h
def ancZ (rs:List RwP):Nat → St → St
 | 0,s=>s
 | i + 1,s=>match findR rs s with
  | none=>s
  | some r=>ancZ rs i r.Parent
theorem anc_row {rs:List RwP} (T:TreeOk rs) {r:RwP} (hr:r ∈ rs) (i:Nat):ancZ rs (i + 1) r.Node = ancZ rs i r.Parent:=by
 show (match findR rs r.Node with | none=>r.Node | some r=>ancZ rs i r.Parent) = _
 rw [findR_mem T.nd hr]
theorem anc_next {rs:List RwP} (T:TreeOk rs) {q:RwP} (hq:q ∈ rs):∀ (i:Nat) (s:St),ancZ rs i s = q.Node → ancZ rs (i + 1) s = q.Parent
 | 0,s,h=>by
  have h:s = q.Node:=h
  rw [h,anc_row T hq];rfl
 | i + 1,s,h=>by
  show (match findR rs s with | none=>s | some r=>ancZ rs (i + 1) r.Parent) = _
  have h:(match findR rs s with | none=>s | some r=>ancZ rs i r.Parent) = q.Node:=h
  cases hf:findR rs s with
  | none =>
   rw [hf] at h
   simp only at h
   rw [h,findR_mem T.nd hq] at hf
   cases hf
  | some r =>
   rw [hf] at h
   exact anc_next T hq i _ h
theorem dfs_anc {rs:List RwP} (T:TreeOk rs):∀ (k:Nat) (p:St) (j:Nat),levZ rs p j → ∀ r ∈ dfsZ rs k p,∃ i,levZ rs r.Node (j + 1 + i) ∧ ancZ rs (i + 1) r.Node = p
 | 0,p,j,_,r,h=>by cases h
 | k + 1,p,j,hj,r,h=>by
  simp only [dfsZ,List.mem_flatMap] at h
  obtain ⟨q,hq,h⟩:=h
  have hq:=mem_kids.1 hq
  have hl:levZ rs q.Node (j + 1):=lev_kid T hq.1 (by rw [hq.2];exact hj)
  rcases List.mem_cons.1 h with rfl | h
  ·exact ⟨0,hl,by rw [anc_row T hq.1];exact hq.2⟩
  ·obtain ⟨i,h1,h2⟩:=dfs_anc T k q.Node (j + 1) hl r h
   exact ⟨i + 1,by rw [show j + 1 + (i + 1) = j + 1 + 1 + i by omega];exact h1,by rw [anc_next T hq.1 _ _ h2];exact hq.2⟩
theorem nd_pw {rs:List RwP} (h:(rs.map (·.Node)).Nodup):rs.Pairwise (fun a b=>a.Node ≠ b.Node):=by
 rw [List.Nodup,List.pairwise_map] at h;exact h
theorem dfs_nd {rs:List RwP} (T:TreeOk rs):∀ (k:Nat) (p:St) (j:Nat),levZ rs p j → (dfsZ rs k p).Pairwise (fun a b=>a.Node ≠ b.Node)
 | 0,p,j,_=>by exact List.Pairwise.nil
 | k + 1,p,j,hj=>by
  have hl:∀ q ∈ kidsZ rs p,levZ rs q.Node (j + 1):=fun q hq=>lev_kid T (mem_kids.1 hq).1 (by rw [(mem_kids.1 hq).2];exact hj)
  have hd:∀ q ∈ kidsZ rs p,∀ x ∈ q :: dfsZ rs k q.Node,∃ i,levZ rs x.Node (j + 1 + i) ∧ ancZ rs i x.Node = q.Node:=fun q hq x hx=>by
   rcases List.mem_cons.1 hx with rfl | hx
   ·exact ⟨0,hl _ hq,rfl⟩
   ·obtain ⟨i,h1,h2⟩:=dfs_anc T k q.Node (j + 1) (hl q hq) x hx
    exact ⟨i + 1,by rw [show j + 1 + (i + 1) = j + 1 + 1 + i by omega];exact h1,h2⟩
  show ((kidsZ rs p).flatMap fun r=>r :: dfsZ rs k r.Node).Pairwise _
  rw [List.pairwise_flatMap]
  refine ⟨fun q hq=>?_,?_⟩
  ·rw [List.pairwise_cons]
   refine ⟨fun x hx e=>?_,dfs_nd T k q.Node (j + 1) (hl q hq)⟩
   obtain ⟨i,h1,_⟩:=dfs_anc T k q.Node (j + 1) (hl q hq) x hx
   rw [← e] at h1
   have:=h1.uniq (hl q hq)
   omega
  ·have hp:(kidsZ rs p).Pairwise (fun a b=>a.Node ≠ b.Node):=(nd_pw T.nd).sublist List.filter_sublist
   refine List.Pairwise.imp_of_mem (fun {a b} ha hb hne x hx y hy e=>?_) hp
   obtain ⟨i,h1,h2⟩:=hd a ha x hx
   obtain ⟨i',h3,h4⟩:=hd b hb y hy
   rw [← e] at h3 h4
   have hii:=h1.uniq h3
   have:i = i':=by omega
   subst this
   exact hne (h2.symm.trans h4)
theorem dfs_kid {rs:List RwP} {q r:RwP} (hr:r ∈ rs) (hp:r.Parent = q.Node):∀ (k:Nat) (p:St),q ∈ dfsZ rs k p → r ∈ dfsZ rs (k + 1) p
 | 0,p,h=>by cases h
 | k + 1,p,h=>by
  simp only [dfsZ,List.mem_flatMap] at h
  obtain ⟨x,hx,h⟩:=h
  show r ∈ (kidsZ rs p).flatMap fun r=>r :: dfsZ rs (k + 1) r.Node
  rw [List.mem_flatMap]
  refine ⟨x,hx,List.mem_cons_of_mem _ ?_⟩
  rcases List.mem_cons.1 h with rfl | h
  ·show r ∈ (kidsZ rs q.Node).flatMap fun r=>r :: dfsZ rs k r.Node
   rw [List.mem_flatMap]
   exact ⟨r,mem_kids.2 ⟨hr,hp⟩,by simp⟩
  ·exact dfs_kid hr hp k _ h
theorem dfs_mono {rs:List RwP}:∀ (k:Nat) (p:St) (r:RwP),r ∈ dfsZ rs k p → r ∈ dfsZ rs (k + 1) p
 | 0,p,r,h=>by cases h
 | k + 1,p,r,h=>by
  simp only [dfsZ,List.mem_flatMap] at h
  obtain ⟨x,hx,h⟩:=h
  show r ∈ (kidsZ rs p).flatMap fun r=>r :: dfsZ rs (k + 1) r.Node
  rw [List.mem_flatMap]
  refine ⟨x,hx,?_⟩
  rcases List.mem_cons.1 h with rfl | h
  ·simp
  ·exact List.mem_cons_of_mem _ (dfs_mono k _ r h)
theorem dfs_le {rs:List RwP} {k j:Nat} (h:k ≤ j) {p:St} {r:RwP} (hr:r ∈ dfsZ rs k p):r ∈ dfsZ rs j p:=by
 induction h with
 | refl=>exact hr
 | step _ ih=>exact dfs_mono _ _ _ ih
theorem dfs_all {rs:List RwP} (T:TreeOk rs):∀ (m:Nat) (r:RwP),r ∈ rs → levZ rs r.Node (m + 1) → ∃ p,fixedS p = true ∧ r ∈ dfsZ rs (m + 1) p
 | 0,r,hr,h=>by
  refine ⟨r.Parent,(lev_par T hr h).1,?_⟩
  show r ∈ (kidsZ rs r.Parent).flatMap fun r=>r :: dfsZ rs 0 r.Node
  rw [List.mem_flatMap]
  exact ⟨r,mem_kids.2 ⟨hr,rfl⟩,by simp⟩
 | m + 1,r,hr,h=>by
  have hp:=lev_par T hr h
  have h0:fixedS r.Parent = false:=hp.2 0 (by omega)
  have h1:=hp.1
  unfold reach at h1
  rw [h0,Bool.false_or] at h1
  cases hf:findR rs r.Parent with
  | none=>rw [hf] at h1;cases h1
  | some q =>
   obtain ⟨hq,hqn⟩:=findR_some hf
   obtain ⟨p,h2,h3⟩:=dfs_all T m q hq (by rw [hqn];exact hp)
   exact ⟨p,h2,dfs_kid hr hqn.symm _ _ h3⟩
theorem fixed_two {p:St} (h:fixedS p = true):p = zSt ∨ p = trS:=by
 obtain ⟨t,r⟩:=p
 simp [fixedS] at h
 obtain ⟨rfl,rfl | rfl⟩:=h
 ·exact .inl rfl
 ·exact .inr rfl
theorem dfs_perm {rs:List RwP} (T:TreeOk rs):(dfsZ rs rs.length zSt ++ dfsZ rs rs.length trS).Perm rs ∧ (dfsZ rs rs.length zSt ++ dfsZ rs rs.length trS).Pairwise (fun a b=>a.Node ≠ b.Node):=by
 have hpw:(dfsZ rs rs.length zSt ++ dfsZ rs rs.length trS).Pairwise (fun a b=>a.Node ≠ b.Node):=by
  rw [List.pairwise_append]
  refine ⟨dfs_nd T _ _ 0 (lev_fixed rfl),dfs_nd T _ _ 0 (lev_fixed rfl),fun a ha b hb e=>?_⟩
  obtain ⟨i,h1,h2⟩:=dfs_anc T _ _ 0 (lev_fixed rfl) a ha
  obtain ⟨i',h3,h4⟩:=dfs_anc T _ _ 0 (lev_fixed rfl) b hb
  rw [← e] at h3 h4
  have:=h1.uniq h3
  have:i = i':=by omega
  subst this
  rw [h2] at h4
  exact absurd h4 (by decide)
 refine ⟨(List.perm_ext_iff_of_nodup (hpw.imp fun h e=>h (by rw [e])) ((nd_pw T.nd).imp fun h e=>h (by rw [e]))).2 fun r=>?_,hpw⟩
 rw [List.mem_append]
 constructor
 ·rintro (h | h)
  ·exact dfs_sub _ _ _ h
  ·exact dfs_sub _ _ _ h
 ·intro hr
  obtain ⟨m,hm⟩:=lev_row T hr
  obtain ⟨p,hp,h⟩:=dfs_all T m r hr hm
  have:=dfs_le hm.le h
  rcases fixed_two hp with rfl | rfl
  ·exact .inl this
  ·exact .inr this
/-! directories -/
section
variable (H:List UInt8 → ID)
def nmZ (l:List It):ID:=if l.isEmpty then zID else H (drB l)
def itsZ (rs:List RwP):Nat → St → List It
 | 0,_=>[]
 | k + 1,p=>(kidsZ rs p).map fun r=>itR r (nmZ H (itsZ rs k r.Node))
def dpZ (l:List It):List (List UInt8):=if l.isEmpty then [] else [drB l]
def putsZ (rs:List RwP):Nat → St → List (List UInt8)
 | 0,_=>[]
 | k + 1,p=>(kidsZ rs p).flatMap fun r=>putsZ rs k r.Node ++ dpZ (itsZ H rs k r.Node)
def trashB:List UInt8:=[116,114,97,115,104]
def trashI (sub:ID):It:=⟨lastS,lastS,trashB,sub,[]⟩
def rootZ (rs:List RwP):List It:=itsZ H rs rs.length zSt ++ [trashI (nmZ H (itsZ H rs rs.length trS))]
def saveZ (rs:List RwP):ID:=H (drB (rootZ H rs))
def allZ (rs:List RwP):List (List UInt8):=putsZ H rs rs.length trS ++ dpZ (itsZ H rs rs.length trS) ++ putsZ H rs rs.length zSt ++ [drB (rootZ H rs)]
variable {H}
theorem its_nil {rs:List RwP} {k:Nat} {p:St} (h:itsZ H rs k p = []):dfsZ rs k p = []:=by
 cases k with
 | zero=>rfl
 | succ k =>
  have h:(kidsZ rs p).map _ = []:=h
  rw [List.map_eq_nil_iff] at h
  show (kidsZ rs p).flatMap _ = []
  rw [h];rfl
theorem rightIt_sub (r:RwP) (a b:ID):rightIt (itR r a) = rightIt (itR r b):=rfl
theorem rightR_it {r:RwP} (h:rightR r = true) (sub:ID):rightIt (itR r sub) = true:=by
 rw [rightIt_sub r sub zID]
 unfold rightR rightDr at h
 simp only [Bool.and_eq_true,List.all_cons,List.all_nil] at h
 exact h.1.1.2.1
theorem rightR_last {r:RwP} (h:rightR r = true):r.Node ≠ lastS:=by
 unfold rightR at h
 simp only [Bool.and_eq_true,decide_eq_true_eq] at h
 exact h.2
theorem rightR_S {r:RwP} (h:rightR r = true):rightS r.Node = true:=by
 have:=rightR_it h zID
 unfold rightIt at this
 simp only [Bool.and_eq_true] at this
 exact this.1.1.1.1.1.1
theorem rise_items {l:List It}:riseB (fun a b:It=>cmpS a.Node b.Node) l = true ↔ l.Pairwise (fun a b=>cmpS a.Node b.Node < 0):=riseB_pw (fun a b:It=>cmpS a.Node b.Node) (fun _ _ _=>cmpS_trans) l
theorem kids_rise {rs:List RwP} (T:TreeOk rs) (p:St):(kidsZ rs p).Pairwise (fun a b=>cmpS a.Node b.Node < 0):=(riseR_pw T.rise).sublist List.filter_sublist
theorem right_its {rs:List RwP} (T:TreeOk rs) {k:Nat} {p:St} (hl:(kidsZ rs p).length ≤ 1000):rightDr (itsZ H rs k p) = true:=by
 cases k with
 | zero=>rfl
 | succ k =>
  unfold rightDr
  simp only [Bool.and_eq_true,decide_eq_true_eq,List.all_eq_true]
  refine ⟨⟨by simpa [itsZ] using hl,fun x hx=>?_⟩,?_⟩
  ·simp only [itsZ,List.mem_map] at hx
   obtain ⟨r,hr,rfl⟩:=hx
   exact rightR_it (T.ok r (mem_kids.1 hr).1) _
  ·rw [rise_items]
   show ((kidsZ rs p).map _).Pairwise _
   rw [List.pairwise_map]
   exact kids_rise T p
theorem cmp_last {s:St} (h:rightS s = true) (hn:s ≠ lastS):cmpS s lastS < 0:=by
 obtain ⟨t,r⟩:=s
 unfold rightS at h
 simp only [Bool.and_eq_true,decide_eq_true_eq] at h
 have:¬ (t = 1099511627776 ∧ r = 65536):=fun e=>hn (by rw [e.1,e.2];rfl)
 unfold cmpS lastS
 simp only
 repeat' split
 all_goals omega
theorem right_trash (sub:ID):rightIt (trashI sub) = true:=by
 show rightIt (trashI zID) = true
 decide
theorem right_root {rs:List RwP} (T:TreeOk rs) (hl:(kidsZ rs zSt).length ≤ 999):rightDr (rootZ H rs) = true:=by
 have h1:rightDr (itsZ H rs rs.length zSt) = true:=right_its T (by omega)
 have hlen:(itsZ H rs rs.length zSt).length ≤ 999:=by
  cases hk:rs.length with
  | zero=>simp [itsZ]
  | succ k=>simpa [itsZ] using hl
 unfold rightDr at h1 ⊢
 simp only [Bool.and_eq_true,decide_eq_true_eq,List.all_eq_true] at h1 ⊢
 refine ⟨⟨by unfold rootZ;simp;omega,fun x hx=>?_⟩,?_⟩
 ·unfold rootZ at hx
  rcases List.mem_append.1 hx with hx | hx
  ·exact h1.1.2 x hx
  ·rw [List.mem_singleton] at hx;subst hx;exact right_trash _
 ·rw [rise_items] at h1 ⊢
  unfold rootZ
  rw [List.pairwise_append]
  refine ⟨h1.2,by simp,fun a ha b hb=>?_⟩
  rw [List.mem_singleton] at hb;subst hb
  cases hk:rs.length with
  | zero=>rw [hk] at ha;cases ha
  | succ k =>
   rw [hk] at ha
   simp only [itsZ,List.mem_map] at ha
   obtain ⟨r,hr,rfl⟩:=ha
   have:=T.ok r (mem_kids.1 hr).1
   exact cmp_last (rightR_S this) (rightR_last this)
end
/-! objects -/
open Classical in
noncomputable def putX (o:List (List UInt8)) (b:List UInt8):List (List UInt8):=if b ∈ o then o else o ++ [b]
theorem mem_putX {o:List (List UInt8)} {b x:List UInt8}:x ∈ putX o b ↔ x ∈ o ∨ x = b:=by
 unfold putX
 split
 ·rename_i h
  exact ⟨.inl,fun h'=>h'.elim id (by rintro rfl;exact h)⟩
 ·simp
noncomputable def putAll (o:List (List UInt8)) (l:List (List UInt8)):List (List UInt8):=l.foldl putX o
theorem mem_putAll {x:List UInt8}:∀ {l o:List (List UInt8)},x ∈ putAll o l ↔ x ∈ o ∨ x ∈ l
 | [],o=>by simp [putAll]
 | b :: l,o=>by
  show x ∈ putAll (putX o b) l ↔ _
  rw [mem_putAll,mem_putX,List.mem_cons,or_assoc]
structure NoClash (H:List UInt8 → ID) (objs:List (List UInt8)):Prop where
 nz:∀ b ∈ objs,H b ≠ zID
 inj:∀ a ∈ objs,∀ b ∈ objs,H a = H b → a = b
def findO (H:List UInt8 → ID) (objs:List (List UInt8)) (id:ID):Option (List UInt8):=objs.find? fun b=>decide (H b = id)
theorem NoClash.find {H:List UInt8 → ID} {objs:List (List UInt8)} (h:NoClash H objs) {b:List UInt8} (hb:b ∈ objs):findO H objs (H b) = some b:=by
 unfold findO
 cases hf:objs.find? fun x=>decide (H x = H b) with
 | none =>
  rw [List.find?_eq_none] at hf
  exact absurd (hf b hb) (by simp)
 | some x =>
  have h1:=List.mem_of_find?_eq_some hf
  have h2:=List.find?_some hf
  rw [decide_eq_true_eq] at h2
  rw [h.inj x h1 b hb h2]
/-! loading -/
def dirO (H:List UInt8 → ID) (objs:List (List UInt8)) (id:ID):Int × List It:=match findO H objs id with
 | none=>(4,[])
 | some b=>match rdDr b with
  | none=>(130,[])
  | some l=>if l.isEmpty then (130,[]) else (0,l)
def rowZ (p:St) (x:It):RwP:=⟨x.Node,p,x.At,x.Name,x.Heads⟩
def badZ (acc:List RwP) (x:It):Prop:=x.Node = lastS ∨ x.Node ∈ acc.map (·.Node) ∨ acc.length = 5000
inductive Und (D:ID → Int × List It):St → List It → List RwP → Int → List RwP → Prop
 | nil {p acc}:Und D p [] acc 0 acc
 | bad {p x l acc}:badZ acc x → Und D p (x :: l) acc 130 acc
 | leaf {p x l acc e acc'}:¬ badZ acc x → x.Sub = zID → Und D p l (acc ++ [rowZ p x]) e acc' → Und D p (x :: l) acc e acc'
 | dirE {p x l acc}:¬ badZ acc x → x.Sub ≠ zID → (D x.Sub).1 ≠ 0 → Und D p (x :: l) acc (D x.Sub).1 (acc ++ [rowZ p x])
 | subE {p x l acc e acc1}:¬ badZ acc x → x.Sub ≠ zID → (D x.Sub).1 = 0 → Und D x.Node (D x.Sub).2 (acc ++ [rowZ p x]) e acc1 → e ≠ 0 → Und D p (x :: l) acc e acc1
 | sub {p x l acc acc1 e acc'}:¬ badZ acc x → x.Sub ≠ zID → (D x.Sub).1 = 0 → Und D x.Node (D x.Sub).2 (acc ++ [rowZ p x]) 0 acc1 → Und D p l acc1 e acc' → Und D p (x :: l) acc e acc'
theorem row_it {p:St} {r:RwP} (h:r.Parent = p) (sub:ID):rowZ p (itR r sub) = r:=by cases r;subst h;rfl
theorem und_good {H:List UInt8 → ID} {rs:List RwP} (T:TreeOk rs) {D:ID → Int × List It} (hD:∀ k p,hgtZ rs k p → itsZ H rs k p ≠ [] → (∃ r ∈ rs,r.Node = p) → D (nmZ H (itsZ H rs k p)) = (0,itsZ H rs k p) ∧ nmZ H (itsZ H rs k p) ≠ zID) :
  ∀ (k:Nat) (p:St) (ks:List RwP) (acc:List RwP) (e:Int) (acc':List RwP),(∀ r ∈ ks,r ∈ kidsZ rs p) → (∀ r ∈ ks,hgtZ rs k r.Node) → (acc ++ ks.flatMap fun r=>r :: dfsZ rs k r.Node).Pairwise (fun a b=>a.Node ≠ b.Node) → (∀ r ∈ acc,r ∈ rs) →
   Und D p (ks.map fun r=>itR r (nmZ H (itsZ H rs k r.Node))) acc e acc' → e = 0 ∧ acc' = acc ++ ks.flatMap fun r=>r :: dfsZ rs k r.Node:=by
 have hlen:∀ (acc l:List RwP),(acc ++ l).Pairwise (fun a b=>a.Node ≠ b.Node) → (∀ r ∈ acc,r ∈ rs) → (∀ r ∈ l,r ∈ rs) → l ≠ [] → acc.length ≠ 5000:=fun acc l hp ha hl hne=>by
  have hn:((acc ++ l).map (·.Node)).Nodup:=by rw [List.Nodup,List.pairwise_map];exact hp
  have:=nd_leS _ (rs.map (·.Node)) hn fun x hx=>by
   rw [List.mem_map] at hx ⊢
   obtain ⟨r,hr,rfl⟩:=hx
   exact ⟨r,(List.mem_append.1 hr).elim (ha r) (hl r),rfl⟩
  simp only [List.length_map,List.length_append] at this
  have h1:=List.length_pos_iff.2 hne
  have h2:=T.len
  omega
 intro k
 induction k with
 | zero =>
  intro p ks
  induction ks with
  | nil =>
   intro acc e acc' _ _ _ _ h
   cases h
   simp
  | cons r ks ih =>
   intro acc e acc' hk hh hp ha h
   have hr:=mem_kids.1 (hk r (by simp))
   have hgood:¬ badZ acc (itR r (nmZ H (itsZ H rs 0 r.Node))):=by
    rintro (h | h | h)
    ·exact rightR_last (T.ok r hr.1) h
    ·obtain ⟨q,hq,e⟩:=List.mem_map.1 h
     exact (List.pairwise_append.1 hp).2.2 q hq r (by simp) e
    ·refine hlen acc _ hp ha (fun x hx=>?_) (by simp) h
     simp only [List.mem_flatMap] at hx
     obtain ⟨q,hq,hx⟩:=hx
     rcases List.mem_cons.1 hx with rfl | hx
     ·exact (mem_kids.1 (hk _ hq)).1
     ·exact dfs_sub _ _ _ hx
   have hrow:=row_it hr.2 (nmZ H (itsZ H rs 0 r.Node))
   have e1:acc ++ (r :: ks).flatMap (fun r=>r :: dfsZ rs 0 r.Node) = (acc ++ [r]) ++ ks.flatMap fun r=>r :: dfsZ rs 0 r.Node:=by simp [dfsZ]
   have next:∀ acc',Und D p (ks.map fun r=>itR r (nmZ H (itsZ H rs 0 r.Node))) (acc ++ [r]) e acc' → e = 0 ∧ acc' = acc ++ (r :: ks).flatMap fun r=>r :: dfsZ rs 0 r.Node:=fun acc' h=>by
    rw [e1]
    refine ih (acc ++ [r]) e acc' (fun q hq=>hk q (List.mem_cons_of_mem _ hq)) (fun q hq=>hh q (List.mem_cons_of_mem _ hq)) (by rw [← e1];exact hp) (fun q hq=>?_) h
    rcases List.mem_append.1 hq with hq | hq
    ·exact ha q hq
    ·rw [List.mem_singleton] at hq;subst hq;exact hr.1
   have hz:(itR r (nmZ H (itsZ H rs 0 r.Node))).Sub = zID:=rfl
   cases h with
   | bad hb=>exact absurd hb hgood
   | leaf _ _ h=>rw [hrow] at h;exact next _ h
   | dirE _ hs _=>exact absurd hz hs
   | subE _ hs _ _ _=>exact absurd hz hs
   | sub _ hs _ _ _=>exact absurd hz hs
 | succ k ihk =>
  intro p ks
  induction ks with
  | nil =>
   intro acc e acc' _ _ _ _ h
   cases h
   simp
  | cons r ks ih =>
   intro acc e acc' hk hh hp ha h
   have hr:=mem_kids.1 (hk r (by simp))
   have hgood:¬ badZ acc (itR r (nmZ H (itsZ H rs (k + 1) r.Node))):=by
    rintro (h | h | h)
    ·exact rightR_last (T.ok r hr.1) h
    ·obtain ⟨q,hq,e⟩:=List.mem_map.1 h
     exact (List.pairwise_append.1 hp).2.2 q hq r (by simp) e
    ·refine hlen acc _ hp ha (fun x hx=>?_) (by simp) h
     simp only [List.mem_flatMap] at hx
     obtain ⟨q,hq,hx⟩:=hx
     rcases List.mem_cons.1 hx with rfl | hx
     ·exact (mem_kids.1 (hk _ hq)).1
     ·exact dfs_sub _ _ _ hx
   have hrow:=row_it hr.2 (nmZ H (itsZ H rs (k + 1) r.Node))
   have e1:acc ++ (r :: ks).flatMap (fun r=>r :: dfsZ rs (k + 1) r.Node) = (acc ++ [r] ++ dfsZ rs (k + 1) r.Node) ++ ks.flatMap fun r=>r :: dfsZ rs (k + 1) r.Node:=by simp
   have ha1:∀ q ∈ acc ++ [r],q ∈ rs:=fun q hq=>by
    rcases List.mem_append.1 hq with hq | hq
    ·exact ha q hq
    ·rw [List.mem_singleton] at hq;subst hq;exact hr.1
   have next:∀ acc',Und D p (ks.map fun r=>itR r (nmZ H (itsZ H rs (k + 1) r.Node))) (acc ++ [r] ++ dfsZ rs (k + 1) r.Node) e acc' → e = 0 ∧ acc' = acc ++ (r :: ks).flatMap fun r=>r :: dfsZ rs (k + 1) r.Node:=fun acc' h=>by
    rw [e1]
    refine ih _ e acc' (fun q hq=>hk q (List.mem_cons_of_mem _ hq)) (fun q hq=>hh q (List.mem_cons_of_mem _ hq)) (by rw [← e1];exact hp) (fun q hq=>?_) h
    rcases List.mem_append.1 hq with hq | hq
    ·exact ha1 q hq
    ·exact dfs_sub _ _ _ hq
   have hsub:∀ e acc1,Und D r.Node (itsZ H rs (k + 1) r.Node) (acc ++ [r]) e acc1 → e = 0 ∧ acc1 = acc ++ [r] ++ dfsZ rs (k + 1) r.Node:=fun e acc1 h=>by
    refine ihk r.Node (kidsZ rs r.Node) (acc ++ [r]) e acc1 (fun q hq=>hq) (hh r (by simp)) ?_ ha1 h
    have hp2:=hp
    rw [e1] at hp2
    exact (List.pairwise_append.1 hp2).1
   have hS:(itR r (nmZ H (itsZ H rs (k + 1) r.Node))).Sub = nmZ H (itsZ H rs (k + 1) r.Node):=rfl
   have hN:(itR r (nmZ H (itsZ H rs (k + 1) r.Node))).Node = r.Node:=rfl
   by_cases he:itsZ H rs (k + 1) r.Node = []
   ·have hz:(itR r (nmZ H (itsZ H rs (k + 1) r.Node))).Sub = zID:=by rw [hS,he];rfl
    cases h with
    | bad hb=>exact absurd hb hgood
    | leaf _ _ h =>
     rw [hrow] at h
     refine next _ ?_
     rw [its_nil he,List.append_nil];exact h
    | dirE _ hs _=>exact absurd hz hs
    | subE _ hs _ _ _=>exact absurd hz hs
    | sub _ hs _ _ _=>exact absurd hz hs
   ·obtain ⟨hd,hnz⟩:=hD (k + 1) r.Node (hh r (by simp)) he ⟨r,hr.1,rfl⟩
    cases h with
    | bad hb=>exact absurd hb hgood
    | leaf _ hs _=>exact absurd hs hnz
    | dirE _ _ hs=>rw [hS,hd] at hs;exact absurd rfl hs
    | subE _ _ _ h hne =>
     rw [hS,hd,hN,hrow] at h
     exact absurd (hsub _ _ h).1 hne
    | sub _ _ _ h h2 =>
     rw [hS,hd,hN,hrow] at h
     rw [(hsub _ _ h).2] at h2
     exact next _ h2
end Go.Proofs.YtnkdnbjmhoegkaaGreat
namespace Go.Proofs.YtnkdnbjmhoegkaaGreat
theorem hgt_succ {rs:List RwP}:∀ (k:Nat) (p:St),hgtZ rs k p → hgtZ rs (k + 1) p
 | 0,p,h=>fun r hr=>by
  have h:kidsZ rs p = []:=h
  rw [h] at hr;cases hr
 | k + 1,p,h=>fun r hr=>hgt_succ k _ (h r hr)
theorem hgt_node {rs:List RwP} (T:TreeOk rs) {r:RwP} (hr:r ∈ rs):hgtZ rs rs.length r.Node:=by
 obtain ⟨j,hj⟩:=lev_row T hr
 exact hgt_lev T rs.length (j + 1) r.Node hj (by omega)
section
variable {H:List UInt8 → ID} {rs:List RwP}
theorem its_succ:∀ (k:Nat) (p:St),hgtZ rs k p → itsZ H rs (k + 1) p = itsZ H rs k p
 | 0,p,h=>by
  have h:kidsZ rs p = []:=h
  show (kidsZ rs p).map _ = []
  rw [h];rfl
 | k + 1,p,h=>by
  show (kidsZ rs p).map (fun r=>itR r (nmZ H (itsZ H rs (k + 1) r.Node))) = (kidsZ rs p).map fun r=>itR r (nmZ H (itsZ H rs k r.Node))
  exact List.map_congr_left fun r hr=>by rw [its_succ k _ (h r hr)]
theorem its_le {k j:Nat} (hj:k ≤ j) {p:St} (h:hgtZ rs k p):itsZ H rs j p = itsZ H rs k p ∧ hgtZ rs j p:=by
 induction hj with
 | refl=>exact ⟨rfl,h⟩
 | step _ ih=>exact ⟨(its_succ _ _ ih.2).trans ih.1,hgt_succ _ _ ih.2⟩
variable (H rs) in
def dirZ (p:St):List It:=itsZ H rs rs.length p
theorem its_dir (T:TreeOk rs) {k:Nat} {p:St} (h:hgtZ rs k p) (h2:hgtZ rs rs.length p):itsZ H rs k p = dirZ H rs p:=by
 rcases Nat.le_total k rs.length with hl | hl
 ·exact ((its_le hl h).1).symm
 ·exact (its_le hl h2).1
theorem mem_puts (T:TreeOk rs) {b:List UInt8}:∀ (k:Nat) (p:St),hgtZ rs k p → (b ∈ putsZ H rs k p ↔ ∃ r ∈ dfsZ rs k p,b ∈ dpZ (dirZ H rs r.Node))
 | 0,p,h=>by simp [putsZ,dfsZ]
 | k + 1,p,h=>by
  simp only [putsZ,dfsZ,List.mem_flatMap,List.mem_append]
  constructor
  ·rintro ⟨r,hr,hb⟩
   have hrs:=(mem_kids.1 hr).1
   rcases hb with hb | hb
   ·obtain ⟨q,hq,hqb⟩:=(mem_puts T k r.Node (h r hr)).1 hb
    exact ⟨q,⟨r,hr,List.mem_cons_of_mem _ hq⟩,hqb⟩
   ·rw [its_dir T (h r hr) (hgt_node T hrs)] at hb
    exact ⟨r,⟨r,hr,by simp⟩,hb⟩
  ·rintro ⟨q,⟨r,hr,hq⟩,hb⟩
   have hrs:=(mem_kids.1 hr).1
   refine ⟨r,hr,?_⟩
   rcases List.mem_cons.1 hq with rfl | hq
   ·rw [its_dir T (h q hr) (hgt_node T hrs)]
    exact .inr hb
   ·exact .inl ((mem_puts T k r.Node (h r hr)).2 ⟨q,hq,hb⟩)
variable (H rs) in
def fullZ (p:St):List It:=if p = zSt then rootZ H rs else dirZ H rs p
theorem full_zero:fullZ H rs zSt = rootZ H rs:=by unfold fullZ;rw [if_pos rfl]
theorem full_ne {p:St} (h:p ≠ zSt):fullZ H rs p = dirZ H rs p:=by unfold fullZ;rw [if_neg h]
variable (rs) in
def placesZ:List St:=zSt :: trS :: rs.map (·.Node)
theorem root_ne:rootZ H rs ≠ []:=by unfold rootZ;simp
theorem mem_dp {l:List It} {b:List UInt8}:b ∈ dpZ l ↔ l ≠ [] ∧ b = drB l:=by
 unfold dpZ
 cases l with
 | nil=>simp
 | cons x l=>simp
theorem node_ne (T:TreeOk rs) {r:RwP} (hr:r ∈ rs):r.Node ≠ zSt ∧ r.Node ≠ trS:=⟨fun e=>T.T r hr (by rw [e];rfl),fun e=>T.T r hr (by rw [e];rfl)⟩
theorem mem_all (T:TreeOk rs) {b:List UInt8}:b ∈ allZ H rs ↔ ∃ p ∈ placesZ rs,fullZ H rs p ≠ [] ∧ b = drB (fullZ H rs p):=by
 have hz:=hgt_fixed T (p:=zSt) rfl
 have ht:=hgt_fixed T (p:=trS) rfl
 have hp:=(dfs_perm T).1
 have hm:∀ r,r ∈ rs ↔ r ∈ dfsZ rs rs.length zSt ∨ r ∈ dfsZ rs rs.length trS:=fun r=>by rw [← hp.mem_iff,List.mem_append]
 unfold allZ
 simp only [List.mem_append,List.mem_singleton,mem_puts T _ _ hz,mem_puts T _ _ ht]
 constructor
 ·rintro (((⟨r,hr,hb⟩ | hb) | ⟨r,hr,hb⟩) | rfl)
  ·have hrs:=(hm r).2 (.inr hr)
   obtain ⟨h1,h2⟩:=mem_dp.1 hb
   refine ⟨r.Node,by unfold placesZ;simp;exact .inr (.inr ⟨r,hrs,rfl⟩),?_⟩
   rw [full_ne (node_ne T hrs).1];exact ⟨h1,h2⟩
  ·obtain ⟨h1,h2⟩:=mem_dp.1 hb
   refine ⟨trS,by unfold placesZ;simp,?_⟩
   rw [full_ne (by decide)];exact ⟨h1,h2⟩
  ·have hrs:=(hm r).2 (.inl hr)
   obtain ⟨h1,h2⟩:=mem_dp.1 hb
   refine ⟨r.Node,by unfold placesZ;simp;exact .inr (.inr ⟨r,hrs,rfl⟩),?_⟩
   rw [full_ne (node_ne T hrs).1];exact ⟨h1,h2⟩
  ·exact ⟨zSt,by unfold placesZ;simp,by rw [full_zero];exact root_ne,by rw [full_zero]⟩
 ·rintro ⟨p,hpl,h1,h2⟩
  unfold placesZ at hpl
  simp only [List.mem_cons,List.mem_map] at hpl
  rcases hpl with rfl | rfl | ⟨r,hr,rfl⟩
  ·rw [full_zero] at h2;exact .inr h2
  ·rw [full_ne (by decide)] at h1 h2;exact .inl (.inl (.inr (mem_dp.2 ⟨h1,h2⟩)))
  ·rw [full_ne (node_ne T hr).1] at h1 h2
   rcases (hm r).1 hr with h | h
   ·exact .inl (.inr ⟨r,h,mem_dp.2 ⟨h1,h2⟩⟩)
   ·exact .inl (.inl (.inl ⟨r,h,mem_dp.2 ⟨h1,h2⟩⟩))
def NarrowZ (rs:List RwP):Prop:=∀ p,(kidsZ rs p).length ≤ 999
theorem right_full (T:TreeOk rs) (N:NarrowZ rs) (p:St):rightDr (fullZ H rs p) = true:=by
 unfold fullZ
 split
 ·exact right_root T (N zSt)
 ·exact right_its T (Nat.le_trans (N p) (by decide))
inductive LdZ (D:ID → Int × List It):ID → Int → List RwP → Prop
 | noDir {id}:(D id).1 ≠ 0 → LdZ D id (D id).1 []
 | bad {id l x}:(D id).1 = 0 → (D id).2 = l ++ [x] → ¬ (x.Node = lastS ∧ x.At = lastS ∧ x.Name = trashB ∧ x.Heads = []) → LdZ D id 130 []
 | under {id l x e acc}:(D id).1 = 0 → (D id).2 = l ++ [x] → (x.Node = lastS ∧ x.At = lastS ∧ x.Name = trashB ∧ x.Heads = []) → Und D zSt l [] e acc → e ≠ 0 → LdZ D id e []
 | noSub {id l x acc}:(D id).1 = 0 → (D id).2 = l ++ [x] → (x.Node = lastS ∧ x.At = lastS ∧ x.Name = trashB ∧ x.Heads = []) → Und D zSt l [] 0 acc → x.Sub = zID → LdZ D id 0 acc
 | subE {id l x acc}:(D id).1 = 0 → (D id).2 = l ++ [x] → (x.Node = lastS ∧ x.At = lastS ∧ x.Name = trashB ∧ x.Heads = []) → Und D zSt l [] 0 acc → x.Sub ≠ zID → (D x.Sub).1 ≠ 0 → LdZ D id (D x.Sub).1 []
 | trashE {id l x acc e acc'}:(D id).1 = 0 → (D id).2 = l ++ [x] → (x.Node = lastS ∧ x.At = lastS ∧ x.Name = trashB ∧ x.Heads = []) → Und D zSt l [] 0 acc → x.Sub ≠ zID → (D x.Sub).1 = 0 → Und D trS (D x.Sub).2 acc e acc' → e ≠ 0 → LdZ D id e []
 | all {id l x acc acc'}:(D id).1 = 0 → (D id).2 = l ++ [x] → (x.Node = lastS ∧ x.At = lastS ∧ x.Name = trashB ∧ x.Heads = []) → Und D zSt l [] 0 acc → x.Sub ≠ zID → (D x.Sub).1 = 0 → Und D trS (D x.Sub).2 acc 0 acc' → LdZ D id 0 acc'
theorem dirO_full (T:TreeOk rs) (N:NarrowZ rs) {objs:List (List UInt8)} (C:NoClash H objs) (hm:∀ b ∈ allZ H rs,b ∈ objs) {p:St} (hp:p ∈ placesZ rs) (hne:fullZ H rs p ≠ []):dirO H objs (H (drB (fullZ H rs p))) = (0,fullZ H rs p) ∧ H (drB (fullZ H rs p)) ≠ zID:=by
 have hb:=hm _ ((mem_all T).2 ⟨p,hp,hne,rfl⟩)
 refine ⟨?_,C.nz _ hb⟩
 unfold dirO
 rw [C.find hb]
 simp only
 rw [Rt.dr (right_full T N p)]
 simp only
 rw [if_neg (by simpa using hne)]
theorem nm_ne {l:List It} (h:l ≠ []):nmZ H l = H (drB l):=by
 unfold nmZ
 rw [if_neg (by simpa using h)]
theorem load_good (T:TreeOk rs) (N:NarrowZ rs) {objs:List (List UInt8)} (C:NoClash H objs) (hm:∀ b ∈ allZ H rs,b ∈ objs) {e:Int} {acc:List RwP} (h:LdZ (dirO H objs) (saveZ H rs) e acc):e = 0 ∧ acc.Perm rs:=by
 have hz:=hgt_fixed T (p:=zSt) rfl
 have ht:=hgt_fixed T (p:=trS) rfl
 obtain ⟨hperm,hpw⟩:=dfs_perm T
 have hroot:dirO H objs (saveZ H rs) = (0,rootZ H rs):=by
  have:=(dirO_full T N C hm (p:=zSt) (by unfold placesZ;simp) (by rw [full_zero];exact root_ne)).1
  rw [full_zero] at this
  exact this
 have hD:∀ k p,hgtZ rs k p → itsZ H rs k p ≠ [] → (∃ r ∈ rs,r.Node = p) → dirO H objs (nmZ H (itsZ H rs k p)) = (0,itsZ H rs k p) ∧ nmZ H (itsZ H rs k p) ≠ zID:=fun k p hk hne ⟨r,hr,hrp⟩=>by
  rw [nm_ne hne]
  have e1:itsZ H rs k p = fullZ H rs p:=by rw [its_dir T hk (by rw [← hrp];exact hgt_node T hr),full_ne (by rw [← hrp];exact (node_ne T hr).1)]
  rw [e1] at hne ⊢
  exact dirO_full T N C hm (by unfold placesZ;simp;exact .inr (.inr ⟨r,hr,hrp⟩)) hne
 have h1:∀ e acc,Und (dirO H objs) zSt (itsZ H rs rs.length zSt) [] e acc → e = 0 ∧ acc = dfsZ rs rs.length zSt:=fun e acc hu=>by
  cases hn:rs.length with
  | zero =>
   rw [hn] at hu
   cases hu
   exact ⟨rfl,rfl⟩
  | succ k =>
   rw [hn] at hu hz
   have:=und_good T hD k zSt (kidsZ rs zSt) [] e acc (fun r hr=>hr) hz (by
    have:=dfs_nd T (k + 1) zSt 0 (lev_fixed rfl)
    simpa [dfsZ] using this) (by simp) hu
   simpa [dfsZ] using this
 have h2:∀ e acc,Und (dirO H objs) trS (itsZ H rs rs.length trS) (dfsZ rs rs.length zSt) e acc → e = 0 ∧ acc = dfsZ rs rs.length zSt ++ dfsZ rs rs.length trS:=fun e acc hu=>by
  cases hn:rs.length with
  | zero =>
   rw [hn] at hu
   cases hu
   exact ⟨rfl,rfl⟩
  | succ k =>
   rw [hn] at hu ht hpw
   have:=und_good T hD k trS (kidsZ rs trS) (dfsZ rs (k + 1) zSt) e acc (fun r hr=>hr) ht (by simpa [dfsZ] using hpw) (fun r hr=>dfs_sub _ _ _ hr) hu
   simpa [dfsZ] using this
 have hsplit:∀ {l:List It} {x:It},(dirO H objs (saveZ H rs)).2 = l ++ [x] → l = itsZ H rs rs.length zSt ∧ x = trashI (nmZ H (itsZ H rs rs.length trS)):=fun {l x} hs=>by
  rw [hroot] at hs
  have hs:rootZ H rs = l ++ [x]:=hs
  unfold rootZ at hs
  obtain ⟨e1,e2⟩:=List.append_inj' hs rfl
  injection e2 with e2 _
  exact ⟨e1.symm,e2.symm⟩
 have hok:(trashI (nmZ H (itsZ H rs rs.length trS))).Node = lastS ∧ (trashI (nmZ H (itsZ H rs rs.length trS))).At = lastS ∧ (trashI (nmZ H (itsZ H rs rs.length trS))).Name = trashB ∧ (trashI (nmZ H (itsZ H rs rs.length trS))).Heads = []:=⟨rfl,rfl,rfl,rfl⟩
 have hS:(trashI (nmZ H (itsZ H rs rs.length trS))).Sub = nmZ H (itsZ H rs rs.length trS):=rfl
 have htr:itsZ H rs rs.length trS ≠ [] → dirO H objs (nmZ H (itsZ H rs rs.length trS)) = (0,itsZ H rs rs.length trS) ∧ nmZ H (itsZ H rs rs.length trS) ≠ zID:=fun hne=>by
  rw [nm_ne hne]
  have e1:itsZ H rs rs.length trS = fullZ H rs trS:=by rw [full_ne (by decide)];rfl
  rw [e1] at hne ⊢
  exact dirO_full T N C hm (by unfold placesZ;simp) hne
 cases h with
 | noDir h0=>rw [hroot] at h0;exact absurd rfl h0
 | bad _ hs hb =>
  obtain ⟨rfl,rfl⟩:=hsplit hs
  exact absurd hok hb
 | under _ hs _ hu hne =>
  obtain ⟨rfl,rfl⟩:=hsplit hs
  exact absurd (h1 _ _ hu).1 hne
 | noSub _ hs _ hu hz0 =>
  obtain ⟨rfl,rfl⟩:=hsplit hs
  rw [hS] at hz0
  have hemp:itsZ H rs rs.length trS = []:=by
   rcases Classical.em (itsZ H rs rs.length trS = []) with h | h
   ·exact h
   ·exact absurd hz0 (htr h).2
  refine ⟨rfl,?_⟩
  rw [(h1 _ _ hu).2]
  rw [its_nil hemp,List.append_nil] at hperm
  exact hperm
 | subE _ hs _ _ hne h0 =>
  obtain ⟨rfl,rfl⟩:=hsplit hs
  rw [hS] at hne h0
  have h3:itsZ H rs rs.length trS ≠ []:=fun e=>hne (by rw [e];rfl)
  rw [(htr h3).1] at h0
  exact absurd rfl h0
 | trashE _ hs _ hu hne h0 hu2 he =>
  obtain ⟨rfl,rfl⟩:=hsplit hs
  rw [hS] at hne hu2
  have h3:itsZ H rs rs.length trS ≠ []:=fun e=>hne (by rw [e];rfl)
  rw [(htr h3).1,(h1 _ _ hu).2] at hu2
  exact absurd (h2 _ _ hu2).1 he
 | all _ hs _ hu hne h0 hu2 =>
  obtain ⟨rfl,rfl⟩:=hsplit hs
  rw [hS] at hne hu2
  have h3:itsZ H rs rs.length trS ≠ []:=fun e=>hne (by rw [e];rfl)
  rw [(htr h3).1,(h1 _ _ hu).2] at hu2
  refine ⟨rfl,?_⟩
  rw [(h2 _ _ hu2).2]
  exact hperm
end
end Go.Proofs.YtnkdnbjmhoegkaaGreat
