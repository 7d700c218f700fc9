/- Plain: what is put is read again; a reader takes the same of longer bytes. Plain: a tree as directories: what is put, and what is loaded of it. -/
import Derived.Test.YtnkdnbjmhoegkaaGreatTreePKq
import Derived.Test.YtnkdnbjmhoegkaaGreatNumWKq
import Derived.Test.YtnkdnbjmhoegkaaGreatShaRKq
set_option linter.unusedVariables false
set_option linter.unusedSimpArgs false
namespace Go.Proofs.YtnkdnbjmhoegkaaGreat
theorem gnAux_nb (most:Nat) (t:List UInt8):∀ (n i u:Nat),i < 9 → n < 128 ^ (9 - i) → (n ≠ 0 ∨ i = 0) → u + n * 128 ^ i ≤ most → u + n * 128 ^ i ≤ 4611686018427387904 →
  gnAux most i u (numB n ++ t) = some (u + n * 128 ^ i,t):=by
 intro n
 induction n using Nat.strongRecOn with
 | _ n ih =>
  intro i u hi hn h0 hm h62
  by_cases h:n < 128
  ·rw [numB_small h]
   simp only [List.cons_append,List.nil_append,gnAux]
   have hb:(UInt8.ofNat n).toNat = n:=by simp;omega
   rw [hb,if_neg (by omega),if_neg (by omega),Nat.mod_eq_of_lt h,if_neg (by omega)]
  ·rw [numB_big h]
   simp only [List.cons_append,gnAux]
   have hb:(UInt8.ofNat (n % 128 + 128)).toNat = n % 128 + 128:=by simp;omega
   have hi8:i < 8:=by
    rcases Nat.lt_or_ge i 8 with h8 | h8
    ·exact h8
    ·have:i = 8:=by omega
     subst this
     simp at hn;omega
   rw [hb,if_neg (by omega),if_pos (by omega),show (n % 128 + 128) % 128 = n % 128 by omega]
   have e1:128 ^ (9 - i) = 128 * 128 ^ (9 - (i + 1)):=by rw [show 9 - i = 9 - (i + 1) + 1 by omega,Nat.pow_succ,Nat.mul_comm]
   have e2:128 ^ (i + 1) = 128 * 128 ^ i:=by rw [Nat.pow_succ,Nat.mul_comm]
   have e3:u + n % 128 * 128 ^ i + n / 128 * 128 ^ (i + 1) = u + n * 128 ^ i:=by
    rw [e2]
    have:=Nat.div_add_mod n 128
    have h2:n * 128 ^ i = (128 * (n / 128) + n % 128) * 128 ^ i:=by rw [this]
    rw [h2,Nat.add_mul,Nat.mul_comm 128 (n / 128),Nat.mul_assoc];omega
   have:=ih (n / 128) (by omega) (i + 1) (u + n % 128 * 128 ^ i) (by omega) (by rw [e1] at hn;omega) (.inl (by omega)) (by rw [e3];exact hm) (by rw [e3];exact h62)
   rw [this,e3]
theorem rdNum_nb (n:Nat) (t:List UInt8) (most:Nat) (hm:n ≤ most) (h62:n ≤ 4611686018427387904):rdNum most (numB n ++ t,false) = (n,(t,false)):=by
 unfold rdNum getN
 have:=gnAux_nb most t n 0 0 (by decide) (by simp;omega) (.inr rfl) (by simpa using hm) (by simpa using h62)
 simp only [Bool.false_eq_true,if_false,this]
 simp
theorem gnAux_mr (most:Nat) (rest:List UInt8):∀ (l:List UInt8) (i u n:Nat) (t:List UInt8),gnAux most i u l = some (n,t) → gnAux most i u (l ++ rest) = some (n,t ++ rest):=by
 intro l
 induction l with
 | nil=>intro i u n t h;simp [gnAux] at h
 | cons b l ih =>
  intro i u n t h
  simp only [List.cons_append,gnAux] at h ⊢
  split at h
  ·cases h
  ·rename_i h1
   rw [if_neg h1]
   split at h
   ·rename_i h2
    rw [if_pos h2];exact ih _ _ _ _ h
   ·rename_i h2
    rw [if_neg h2]
    split at h
    ·cases h
    ·rename_i h3
     rw [if_neg h3]
     simp only [Option.some.injEq,Prod.mk.injEq] at h ⊢
     exact ⟨h.1,by rw [h.2]⟩
structure Ext {α:Type} (f:RS → α × RS):Prop where
 ext:∀ s t e,(f (s,false)).2 = (t,false) → f (s ++ e,false) = ((f (s,false)).1,(t ++ e,false))
 go:∀ s,s.2 = true → (f s).2.2 = true
theorem Ext.num (most:Nat):Ext (rdNum most):=by
 refine ⟨fun s t e h=>?_,fun s h=>?_⟩
 ·unfold rdNum getN at *
  simp only [Bool.false_eq_true,if_false] at *
  cases hg:gnAux most 0 0 s with
  | none=>rw [hg] at h;simp at h
  | some x =>
   obtain ⟨n,r⟩:=x
   rw [hg] at h
   simp only [Prod.mk.injEq,and_true] at h
   subst h
   rw [gnAux_mr most e s 0 0 n r hg]
 ·unfold rdNum
  rw [if_pos h]
theorem Ext.take (n:Nat):Ext (rdTake n):=by
 refine ⟨fun s t e h=>?_,fun s h=>?_⟩
 ·unfold rdTake at *
  simp only [Bool.false_eq_true,false_or] at *
  split at h
  ·simp at h
  ·rename_i h1
   have h2:¬ (s ++ e).length < n:=by rw [List.length_append];omega
   rw [if_neg h2,if_neg h1]
   simp only [Prod.mk.injEq,and_true] at h ⊢
   subst h
   rw [List.take_append_of_le_length (by omega),List.drop_append_of_le_length (by omega)]
   exact ⟨rfl,rfl⟩
 ·unfold rdTake
  rw [if_pos (.inl h)]
theorem Ext.bind {α β:Type} {f:RS → α × RS} {g:α → RS → β × RS} (hf:Ext f) (hg:∀ a,Ext (g a)):Ext (fun s=>g (f s).1 (f s).2):=by
 refine ⟨fun s t e h=>?_,fun s h=>(hg _).go _ (hf.go _ h)⟩
 try dsimp only at h ⊢
 cases hb:(f (s,false)).2.2 with
 | true =>
  have:=(hg (f (s,false)).1).go _ hb
  rw [h] at this;cases this
 | false =>
  obtain ⟨r,hr⟩:∃ r,(f (s,false)).2 = (r,false):=⟨(f (s,false)).2.1,Prod.ext rfl hb⟩
  rw [hf.ext s r e hr]
  rw [hr] at h
  rw [hr]
  exact (hg _).ext r t e h
theorem Ext.pure {α β:Type} {f:RS → α × RS} (hf:Ext f) (k:α → β):Ext (fun s=>(k (f s).1,(f s).2)):=by
 refine ⟨fun s t e h=>?_,fun s h=>hf.go _ h⟩
 simp only at h
 rw [hf.ext s t e h]
theorem Ext.congr {α:Type} {f g:RS → α × RS} (hf:Ext f) (h:∀ s,g s = f s):Ext g:=by
 have:f = g:=funext fun s=>(h s).symm
 rw [← this];exact hf
theorem Ext.ret {α:Type} (a:α):Ext (fun s:RS=>(a,s)):=by
 refine ⟨fun s t e h=>?_,fun s h=>h⟩
 simp only [Prod.mk.injEq,and_true] at h ⊢
 rw [h];exact ⟨trivial,rfl⟩
theorem Ext.text (most:Nat):Ext (rdText most):=((Ext.num most).bind (g:=fun n=>rdTake n) fun n=>Ext.take n).congr fun s=>rfl
theorem Ext.id:Ext rdId:=((Ext.take 32).pure idOf).congr fun s=>rfl
theorem Ext.st:Ext rdSt:=((Ext.num 1099511627776).bind (g:=fun (t:Nat) s=>((⟨t,((rdNum 65536 s).1:Nat)⟩:St),(rdNum 65536 s).2)) fun t=>(Ext.num 65536).pure fun r=>(⟨t,r⟩:St)).congr fun s=>rfl
theorem Ext.all {α:Type} {f:RS → α × RS} (hf:Ext f) (n:Nat):Ext (rdAll f n):=by
 induction n with
 | zero=>exact (Ext.ret ([]:List α)).congr fun s=>rfl
 | succ n ih=>exact (hf.bind (g:=fun a s=>(a :: (rdAll f n s).1,(rdAll f n s).2)) fun a=>ih.pure fun l=>a :: l).congr fun s=>rfl
def rdDr0 (s:RS):List It × RS :=
 let n:=rdNum 1000 s
 rdMany rdIt n.1 n.2
def whole {α:Type} (f:RS → α × RS) (k:UInt8) (p:α → Bool) (b:List UInt8):Option α :=
 if (f (openR b k)).2 = ([],false) ∧ p (f (openR b k)).1 = true then some (f (openR b k)).1 else none
theorem rdDr_eq (b:List UInt8):rdDr b = whole rdDr0 2 rightDr b:=rfl
/-! what is put is read -/
def Rt {α:Type} (f:RS → α × RS) (b:α → List UInt8) (x:α):Prop:=∀ e,f (b x ++ e,false) = (x,(e,false))
theorem Rt.text {most:Nat} {l:List UInt8} (h:l.length ≤ most) (h62:most ≤ 4611686018427387904):Rt (rdText most) txB l:=by
 intro e
 unfold rdText txB
 rw [List.append_assoc,rdNum_nb _ _ _ h (by omega)]
 simp [rdTake]
theorem Rt.id (x:ID):Rt rdId (·.1) x:=by
 intro e
 unfold rdId rdTake
 have h:x.1.length = 32:=x.2
 obtain ⟨l,hl⟩:=x
 dsimp only at h ⊢
 have e1:List.take 32 (l ++ e) = l:=List.take_left' h
 have e2:List.drop 32 (l ++ e) = e:=List.drop_left' h
 have h3:¬ (l ++ e).length < 32:=by rw [List.length_append,h];omega
 simp only [Bool.false_eq_true,false_or,h3,if_false,e1,e2]
 have e3:idOf l = ⟨l,hl⟩:=by unfold idOf;exact dif_pos h
 rw [e3]
def sSt (s:St):Prop:=0 ≤ s.T ∧ s.T ≤ 1099511627776 ∧ 0 ≤ s.R ∧ s.R ≤ 65536
theorem sSt_of {s:St} (h:rightS s = true):sSt s:=by
 simp only [rightS,Bool.and_eq_true,decide_eq_true_eq] at h
 exact ⟨by omega,by omega,by omega,by omega⟩
theorem Rt.st {s:St} (h:sSt s):Rt rdSt stB s:=by
 intro e
 obtain ⟨h1,h2,h3,h4⟩:=h
 unfold rdSt stB
 rw [List.append_assoc,rdNum_nb _ _ _ (by omega) (by omega)]
 dsimp only
 rw [rdNum_nb _ _ _ (by omega) (by omega)]
 have e1:(s.T.toNat:Int) = s.T:=by omega
 have e2:(s.R.toNat:Int) = s.R:=by omega
 rw [e1,e2]
theorem Rt.hd {h:Hd} (hh:sSt h.At):Rt rdHd hdB h:=by
 intro e
 unfold rdHd hdB
 rw [List.append_assoc,Rt.st hh]
 dsimp only
 rw [Rt.id h.Data]
theorem Rt.many {α:Type} {f:RS → α × RS} {b:α → List UInt8}:∀ {l:List α},(∀ x ∈ l,Rt f b x) → ∀ e,rdMany f l.length (l.flatMap b ++ e,false) = (l,(e,false))
 | [],_,e=>rfl
 | x :: l,h,e=>by
  simp only [List.length_cons,rdMany,List.flatMap_cons,List.append_assoc]
  rw [h x (by simp)]
  simp only [Bool.false_eq_true,if_false]
  rw [Rt.many (fun y hy=>h y (by simp [hy])) e]
theorem Rt.all {α:Type} {f:RS → α × RS} {b:α → List UInt8}:∀ {l:List α},(∀ x ∈ l,Rt f b x) → ∀ e,rdAll f l.length (l.flatMap b ++ e,false) = (l,(e,false))
 | [],_,e=>rfl
 | x :: l,h,e=>by
  simp only [List.length_cons,rdAll,List.flatMap_cons,List.append_assoc]
  rw [h x (by simp)]
  dsimp only
  rw [Rt.all (fun y hy=>h y (by simp [hy])) e]
theorem nameOk_le {l:List UInt8} (h:nameOk l = true):l.length ≤ 60:=by
 simp only [nameOk,Bool.and_eq_true,decide_eq_true_eq] at h
 exact h.1.1.1.2
theorem Rt.it {x:It} (h:rightIt x = true):Rt rdIt itB x:=by
 intro e
 simp only [rightIt,Bool.and_eq_true,decide_eq_true_eq,List.all_eq_true] at h
 obtain ⟨⟨⟨⟨⟨⟨h1,h2⟩,h3⟩,h4⟩,h5⟩,h6⟩,h7⟩:=h
 unfold rdIt itB
 simp only [List.append_assoc]
 rw [Rt.st (sSt_of h1)]
 dsimp only
 rw [Rt.st (sSt_of h2)]
 dsimp only
 rw [Rt.text (nameOk_le h4) (by decide)]
 dsimp only
 rw [Rt.id x.Sub]
 dsimp only
 rw [rdNum_nb _ _ _ h5 (by omega)]
 dsimp only
 rw [Rt.many (fun y hy=>Rt.hd (sSt_of (h6 y hy).1.1))]
theorem Rt.dr {l:List It} (h:rightDr l = true):rdDr (drB l) = some l:=by
 have h0:=h
 simp only [rightDr,Bool.and_eq_true,decide_eq_true_eq,List.all_eq_true] at h
 obtain ⟨⟨h1,h2⟩,h3⟩:=h
 have e:rdDr0 (openR (drB l) 2) = (l,([],false)):=by
  have e0:openR (drB l) 2 = (numB l.length ++ (l.flatMap itB ++ []),false):=by unfold drB openR;simp
  rw [e0]
  unfold rdDr0
  rw [rdNum_nb _ _ _ h1 (by omega)]
  dsimp only
  rw [Rt.many (fun y hy=>Rt.it (h2 y hy))]
 rw [rdDr_eq]
 unfold whole
 rw [e,if_pos ⟨rfl,h0⟩]
theorem Rt.op {o:Opn} (h:goodOp o = true):Rt rdOp opB o:=by
 intro e
 have hg:=h
 have e0:rdOp0 (opB o ++ e,false) = (o,(e,false)):=by
  simp only [goodOp,Bool.and_eq_true] at h
  obtain ⟨⟨h1,h2⟩,h3⟩:=h
  unfold opB
  rw [if_pos hg]
  by_cases hk:o.Kind = 1
  ·rw [if_pos hk] at h3
   simp only [moveOk,Bool.and_eq_true,decide_eq_true_eq,Bool.or_eq_true] at h3
   obtain ⟨⟨⟨⟨h4,h5⟩,h6⟩,h7⟩,h8⟩:=h3
   have hp:sSt o.Parent:=by
    rcases h5 with h5 | h5
    ·exact sSt_of h5
    ·simp only [fixedS,Bool.and_eq_true,Bool.or_eq_true,decide_eq_true_eq] at h5
     exact ⟨by omega,by omega,by omega,by omega⟩
   rw [if_pos hk]
   simp only [List.append_assoc]
   unfold rdOp0
   have ek:o.Kind.toNat = 1:=by rw [hk];rfl
   rw [ek,rdNum_nb 1 _ 2 (by decide) (by decide)]
   dsimp only
   rw [Rt.st (sSt_of h1)]
   dsimp only
   rw [Rt.st (sSt_of h2)]
   dsimp only
   rw [if_pos rfl,Rt.st hp]
   dsimp only
   rw [Rt.text (nameOk_le h6) (by decide)]
   dsimp only
   have h9:o.Over = []:=List.length_eq_zero_iff.1 h8
   obtain ⟨k,a,b,c,d,f,g⟩:=o
   dsimp only at *
   subst hk h7 h9
   rfl
  ·rw [if_neg hk] at h3
   by_cases hk2:o.Kind = 2
   ·rw [if_pos hk2] at h3
    simp only [editOk,Bool.and_eq_true,decide_eq_true_eq,List.all_eq_true] at h3
    obtain ⟨⟨⟨⟨⟨⟨h4,h5⟩,h6⟩,h7⟩,h8⟩,h9⟩,h10⟩:=h3
    rw [if_neg hk]
    simp only [List.append_assoc]
    unfold rdOp0
    have ek:o.Kind.toNat = 2:=by rw [hk2];rfl
    rw [ek,rdNum_nb 2 _ 2 (by decide) (by decide)]
    dsimp only
    rw [Rt.st (sSt_of h1)]
    dsimp only
    rw [Rt.st (sSt_of h2)]
    dsimp only
    rw [if_neg (by decide),Rt.id o.Data]
    dsimp only
    rw [rdNum_nb _ _ _ h8 (by omega)]
    dsimp only
    rw [Rt.all (fun y hy=>Rt.st (sSt_of (h9 y hy).1))]
    obtain ⟨k,a,b,c,d,f,g⟩:=o
    dsimp only at *
    subst hk2 h5 h6
    rfl
   ·rw [if_neg hk2] at h3;cases h3
 unfold rdOp
 rw [e0,if_neg]
 simp [hg]
end Go.Proofs.YtnkdnbjmhoegkaaGreat
namespace Go.Proofs.YtnkdnbjmhoegkaaGreat
def kidsZ (rs:List RwP) (p:St):List RwP:=rs.filter fun r=>decide (r.Parent = p)
theorem mem_kids {rs:List RwP} {p:St} {r:RwP}:r ∈ kidsZ rs p ↔ r ∈ rs ∧ r.Parent = p:=by simp [kidsZ]
/-! levels -/
def levZ (rs:List RwP) (s:St) (j:Nat):Prop:=reach rs j s = true ∧ ∀ i,i < j → reach rs i s = false
theorem levZ.uniq {rs:List RwP} {s:St} {i j:Nat} (h:levZ rs s i) (h':levZ rs s j):i = j:=by
 rcases Nat.lt_trichotomy i j with hl | hl | hl
 ·have:=h'.2 i hl;rw [h.1] at this;cases this
 ·exact hl
 ·have:=h.2 j hl;rw [h'.1] at this;cases this
theorem lev_fixed {rs:List RwP} {s:St} (h:fixedS s = true):levZ rs s 0:=⟨h,fun i hi=>absurd hi (Nat.not_lt_zero i)⟩
theorem lev_some {rs:List RwP} {s:St} {k:Nat} (h:reach rs k s = true):∃ j,levZ rs s j:=by
 induction k using Nat.strongRecOn with
 | ind k ih =>
  by_cases hm:∀ j,j < k → reach rs j s = false
  ·exact ⟨k,h,hm⟩
  ·simp only [Classical.not_forall] at hm
   obtain ⟨j,hj,hr⟩:=hm
   exact ih j hj (by cases e:reach rs j s with | true=>rfl | false=>exact absurd e hr)
theorem levZ.le {rs:List RwP} {s:St} {j:Nat} (h:levZ rs s j):j ≤ rs.length:=by
 rcases Nat.lt_or_ge rs.length j with hl | hl
 ·have:=h.2 _ hl;rw [reach_len h.1] at this;cases this
 ·exact hl
theorem fixed_not {r:RwP} (h:r.Node.T ≠ 0):fixedS r.Node = false:=by unfold fixedS;simp [h]
theorem reach_up {rs:List RwP} (T:TreeOk rs) {r:RwP} (hr:r ∈ rs) (k:Nat):reach rs (k + 1) r.Node = reach rs k r.Parent:=by
 show (fixedS r.Node || match findR rs r.Node with | none=>false | some r=>reach rs k r.Parent) = _
 rw [findR_mem T.nd hr,fixed_not (T.T r hr)];rfl
theorem lev_kid {rs:List RwP} (T:TreeOk rs) {r:RwP} (hr:r ∈ rs) {j:Nat}:levZ rs r.Parent j → levZ rs r.Node (j + 1):=fun h=>by
 refine ⟨by rw [reach_up T hr];exact h.1,fun i hi=>?_⟩
 cases i with
 | zero=>exact fixed_not (T.T r hr)
 | succ i=>rw [reach_up T hr];exact h.2 i (by omega)
theorem lev_par {rs:List RwP} (T:TreeOk rs) {r:RwP} (hr:r ∈ rs) {j:Nat} (h:levZ rs r.Node (j + 1)):levZ rs r.Parent j :=
 ⟨by rw [← reach_up T hr];exact h.1,fun i hi=>by rw [← reach_up T hr];exact h.2 (i + 1) (by omega)⟩
theorem lev_row {rs:List RwP} (T:TreeOk rs) {r:RwP} (hr:r ∈ rs):∃ j,levZ rs r.Node (j + 1):=by
 obtain ⟨k,hk⟩:=T.up r hr
 obtain ⟨j,hj⟩:=lev_some hk
 cases j with
 | zero=>have h0:=hj.1;unfold reach at h0;rw [fixed_not (T.T r hr)] at h0;cases h0
 | succ j=>exact ⟨j,hj⟩
def hgtZ (rs:List RwP):Nat → St → Prop
 | 0,p=>kidsZ rs p = []
 | k + 1,p=>∀ r ∈ kidsZ rs p,hgtZ rs k r.Node
theorem hgt_lev {rs:List RwP} (T:TreeOk rs):∀ (d j:Nat) (s:St),levZ rs s j → rs.length ≤ j + d → hgtZ rs d s
 | 0,j,s,h,hd=>by
  show kidsZ rs s = []
  cases hk:kidsZ rs s with
  | nil=>rfl
  | cons r l =>
   have hr:=mem_kids.1 (show r ∈ kidsZ rs s by rw [hk];simp)
   have:=(lev_kid T hr.1 (by rw [hr.2];exact h)).le
   omega
 | d + 1,j,s,h,hd=>fun r hr=>by
  have hr:=mem_kids.1 hr
  exact hgt_lev T d (j + 1) r.Node (lev_kid T hr.1 (by rw [hr.2];exact h)) (by omega)
theorem hgt_fixed {rs:List RwP} (T:TreeOk rs) {p:St} (hp:fixedS p = true):hgtZ rs rs.length p:=hgt_lev T rs.length 0 p (lev_fixed hp) (by omega)
/-! all that lies under a place -/
def dfsZ (rs:List RwP):Nat → St → List RwP
 | 0,_=>[]
 | k + 1,p=>(kidsZ rs p).flatMap fun r=>r :: dfsZ rs k r.Node
theorem dfs_sub {rs:List RwP}:∀ (k:Nat) (p:St),∀ r ∈ dfsZ rs k p,r ∈ rs
 | 0,p,r,h=>by cases h
 | k + 1,p,r,h=>by
  simp only [dfsZ,List.mem_flatMap] at h
  obtain ⟨q,hq,h⟩:=h
  rcases List.mem_cons.1 h with rfl | h
  ·exact (mem_kids.1 hq).1
  ·exact dfs_sub k _ r h
def ancZ (rs:List RwP):Nat → St → St
 | 0,s=>s
 | i + 1,s=>match findR rs s with
  | none=>s
  | some r=>ancZ rs i r.Parent
theorem anc_row {rs:List RwP} (T:TreeOk rs) {r:RwP} (hr:r ∈ rs) (i:Nat):ancZ rs (i + 1) r.Node = ancZ rs i r.Parent:=by
 show (match findR rs r.Node with | none=>r.Node | some r=>ancZ rs i r.Parent) = _
 rw [findR_mem T.nd hr]
theorem anc_next {rs:List RwP} (T:TreeOk rs) {q:RwP} (hq:q ∈ rs):∀ (i:Nat) (s:St),ancZ rs i s = q.Node → ancZ rs (i + 1) s = q.Parent
 | 0,s,h=>by
  have h:s = q.Node:=h
  rw [h,anc_row T hq];rfl
 | i + 1,s,h=>by
  show (match findR rs s with | none=>s | some r=>ancZ rs (i + 1) r.Parent) = _
  have h:(match findR rs s with | none=>s | some r=>ancZ rs i r.Parent) = q.Node:=h
  cases hf:findR rs s with
  | none =>
   rw [hf] at h
   simp only at h
   rw [h,findR_mem T.nd hq] at hf
   cases hf
  | some r =>
   rw [hf] at h
   exact anc_next T hq i _ h
theorem dfs_anc {rs:List RwP} (T:TreeOk rs):∀ (k:Nat) (p:St) (j:Nat),levZ rs p j → ∀ r ∈ dfsZ rs k p,∃ i,levZ rs r.Node (j + 1 + i) ∧ ancZ rs (i + 1) r.Node = p
 | 0,p,j,_,r,h=>by cases h
 | k + 1,p,j,hj,r,h=>by
  simp only [dfsZ,List.mem_flatMap] at h
  obtain ⟨q,hq,h⟩:=h
  have hq:=mem_kids.1 hq
  have hl:levZ rs q.Node (j + 1):=lev_kid T hq.1 (by rw [hq.2];exact hj)
  rcases List.mem_cons.1 h with rfl | h
  ·exact ⟨0,hl,by rw [anc_row T hq.1];exact hq.2⟩
  ·obtain ⟨i,h1,h2⟩:=dfs_anc T k q.Node (j + 1) hl r h
   exact ⟨i + 1,by rw [show j + 1 + (i + 1) = j + 1 + 1 + i by omega];exact h1,by rw [anc_next T hq.1 _ _ h2];exact hq.2⟩
theorem nd_pw {rs:List RwP} (h:(rs.map (·.Node)).Nodup):rs.Pairwise (fun a b=>a.Node ≠ b.Node):=by
 rw [List.Nodup,List.pairwise_map] at h;exact h
theorem dfs_nd {rs:List RwP} (T:TreeOk rs):∀ (k:Nat) (p:St) (j:Nat),levZ rs p j → (dfsZ rs k p).Pairwise (fun a b=>a.Node ≠ b.Node)
 | 0,p,j,_=>by exact List.Pairwise.nil
 | k + 1,p,j,hj=>by
  have hl:∀ q ∈ kidsZ rs p,levZ rs q.Node (j + 1):=fun q hq=>lev_kid T (mem_kids.1 hq).1 (by rw [(mem_kids.1 hq).2];exact hj)
  have hd:∀ q ∈ kidsZ rs p,∀ x ∈ q :: dfsZ rs k q.Node,∃ i,levZ rs x.Node (j + 1 + i) ∧ ancZ rs i x.Node = q.Node:=fun q hq x hx=>by
   rcases List.mem_cons.1 hx with rfl | hx
   ·exact ⟨0,hl _ hq,rfl⟩
   ·obtain ⟨i,h1,h2⟩:=dfs_anc T k q.Node (j + 1) (hl q hq) x hx
    exact ⟨i + 1,by rw [show j + 1 + (i + 1) = j + 1 + 1 + i by omega];exact h1,h2⟩
  show ((kidsZ rs p).flatMap fun r=>r :: dfsZ rs k r.Node).Pairwise _
  rw [List.pairwise_flatMap]
  refine ⟨fun q hq=>?_,?_⟩
  ·rw [List.pairwise_cons]
   refine ⟨fun x hx e=>?_,dfs_nd T k q.Node (j + 1) (hl q hq)⟩
   obtain ⟨i,h1,_⟩:=dfs_anc T k q.Node (j + 1) (hl q hq) x hx
   rw [← e] at h1
   have:=h1.uniq (hl q hq)
   omega
  ·have hp:(kidsZ rs p).Pairwise (fun a b=>a.Node ≠ b.Node):=(nd_pw T.nd).sublist List.filter_sublist
   refine List.Pairwise.imp_of_mem (fun {a b} ha hb hne x hx y hy e=>?_) hp
   obtain ⟨i,h1,h2⟩:=hd a ha x hx
   obtain ⟨i',h3,h4⟩:=hd b hb y hy
   rw [← e] at h3 h4
   have hii:=h1.uniq h3
   have:i = i':=by omega
   subst this
   exact hne (h2.symm.trans h4)
theorem dfs_kid {rs:List RwP} {q r:RwP} (hr:r ∈ rs) (hp:r.Parent = q.Node):∀ (k:Nat) (p:St),q ∈ dfsZ rs k p → r ∈ dfsZ rs (k + 1) p
 | 0,p,h=>by cases h
 | k + 1,p,h=>by
  simp only [dfsZ,List.mem_flatMap] at h
  obtain ⟨x,hx,h⟩:=h
  show r ∈ (kidsZ rs p).flatMap fun r=>r :: dfsZ rs (k + 1) r.Node
  rw [List.mem_flatMap]
  refine ⟨x,hx,List.mem_cons_of_mem _ ?_⟩
  rcases List.mem_cons.1 h with rfl | h
  ·show r ∈ (kidsZ rs q.Node).flatMap fun r=>r :: dfsZ rs k r.Node
   rw [List.mem_flatMap]
   exact ⟨r,mem_kids.2 ⟨hr,hp⟩,by simp⟩
  ·exact dfs_kid hr hp k _ h
theorem dfs_mono {rs:List RwP}:∀ (k:Nat) (p:St) (r:RwP),r ∈ dfsZ rs k p → r ∈ dfsZ rs (k + 1) p
 | 0,p,r,h=>by cases h
 | k + 1,p,r,h=>by
  simp only [dfsZ,List.mem_flatMap] at h
  obtain ⟨x,hx,h⟩:=h
  show r ∈ (kidsZ rs p).flatMap fun r=>r :: dfsZ rs (k + 1) r.Node
  rw [List.mem_flatMap]
  refine ⟨x,hx,?_⟩
  rcases List.mem_cons.1 h with rfl | h
  ·simp
  ·exact List.mem_cons_of_mem _ (dfs_mono k _ r h)
theorem dfs_le {rs:List RwP} {k j:Nat} (h:k ≤ j) {p:St} {r:RwP} (hr:r ∈ dfsZ rs k p):r ∈ dfsZ rs j p:=by
 induction h with
 | refl=>exact hr
 | step _ ih=>exact dfs_mono _ _ _ ih
theorem dfs_all {rs:List RwP} (T:TreeOk rs):∀ (m:Nat) (r:RwP),r ∈ rs → levZ rs r.Node (m + 1) → ∃ p,fixedS p = true ∧ r ∈ dfsZ rs (m + 1) p
 | 0,r,hr,h=>by
  refine ⟨r.Parent,(lev_par T hr h).1,?_⟩
  show r ∈ (kidsZ rs r.Parent).flatMap fun r=>r :: dfsZ rs 0 r.Node
  rw [List.mem_flatMap]
  exact ⟨r,mem_kids.2 ⟨hr,rfl⟩,by simp⟩
 | m + 1,r,hr,h=>by
  have hp:=lev_par T hr h
  have h0:fixedS r.Parent = false:=hp.2 0 (by omega)
  have h1:=hp.1
  unfold reach at h1
  rw [h0,Bool.false_or] at h1
  cases hf:findR rs r.Parent with
  | none=>rw [hf] at h1;cases h1
  | some q =>
   obtain ⟨hq,hqn⟩:=findR_some hf
   obtain ⟨p,h2,h3⟩:=dfs_all T m q hq (by rw [hqn];exact hp)
   exact ⟨p,h2,dfs_kid hr hqn.symm _ _ h3⟩
theorem fixed_two {p:St} (h:fixedS p = true):p = zSt ∨ p = trS:=by
 obtain ⟨t,r⟩:=p
 simp [fixedS] at h
 obtain ⟨rfl,rfl | rfl⟩:=h
 ·exact .inl rfl
 ·exact .inr rfl
theorem dfs_perm {rs:List RwP} (T:TreeOk rs):(dfsZ rs rs.length zSt ++ dfsZ rs rs.length trS).Perm rs ∧ (dfsZ rs rs.length zSt ++ dfsZ rs rs.length trS).Pairwise (fun a b=>a.Node ≠ b.Node):=by
 have hpw:(dfsZ rs rs.length zSt ++ dfsZ rs rs.length trS).Pairwise (fun a b=>a.Node ≠ b.Node):=by
  rw [List.pairwise_append]
  refine ⟨dfs_nd T _ _ 0 (lev_fixed rfl),dfs_nd T _ _ 0 (lev_fixed rfl),fun a ha b hb e=>?_⟩
  obtain ⟨i,h1,h2⟩:=dfs_anc T _ _ 0 (lev_fixed rfl) a ha
  obtain ⟨i',h3,h4⟩:=dfs_anc T _ _ 0 (lev_fixed rfl) b hb
  rw [← e] at h3 h4
  have:=h1.uniq h3
  have:i = i':=by omega
  subst this
  rw [h2] at h4
  exact absurd h4 (by decide)
 refine ⟨(List.perm_ext_iff_of_nodup (hpw.imp fun h e=>h (by rw [e])) ((nd_pw T.nd).imp fun h e=>h (by rw [e]))).2 fun r=>?_,hpw⟩
 rw [List.mem_append]
 constructor
 ·rintro (h | h)
  ·exact dfs_sub _ _ _ h
  ·exact dfs_sub _ _ _ h
 ·intro hr
  obtain ⟨m,hm⟩:=lev_row T hr
  obtain ⟨p,hp,h⟩:=dfs_all T m r hr hm
  have:=dfs_le hm.le h
  rcases fixed_two hp with rfl | rfl
  ·exact .inl this
  ·exact .inr this
/-! directories -/
section
variable (H:List UInt8 → ID)
def nmZ (l:List It):ID:=if l.isEmpty then zID else H (drB l)
def itsZ (rs:List RwP):Nat → St → List It
 | 0,_=>[]
 | k + 1,p=>(kidsZ rs p).map fun r=>itR r (nmZ H (itsZ rs k r.Node))
def dpZ (l:List It):List (List UInt8):=if l.isEmpty then [] else [drB l]
def putsZ (rs:List RwP):Nat → St → List (List UInt8)
 | 0,_=>[]
 | k + 1,p=>(kidsZ rs p).flatMap fun r=>putsZ rs k r.Node ++ dpZ (itsZ H rs k r.Node)
def trashB:List UInt8:=[116,114,97,115,104]
def trashI (sub:ID):It:=⟨lastS,lastS,trashB,sub,[]⟩
def rootZ (rs:List RwP):List It:=itsZ H rs rs.length zSt ++ [trashI (nmZ H (itsZ H rs rs.length trS))]
def saveZ (rs:List RwP):ID:=H (drB (rootZ H rs))
def allZ (rs:List RwP):List (List UInt8):=putsZ H rs rs.length trS ++ dpZ (itsZ H rs rs.length trS) ++ putsZ H rs rs.length zSt ++ [drB (rootZ H rs)]
variable {H}
theorem its_nil {rs:List RwP} {k:Nat} {p:St} (h:itsZ H rs k p = []):dfsZ rs k p = []:=by
 cases k with
 | zero=>rfl
 | succ k =>
  have h:(kidsZ rs p).map _ = []:=h
  rw [List.map_eq_nil_iff] at h
  show (kidsZ rs p).flatMap _ = []
  rw [h];rfl
theorem rightIt_sub (r:RwP) (a b:ID):rightIt (itR r a) = rightIt (itR r b):=rfl
theorem rightR_it {r:RwP} (h:rightR r = true) (sub:ID):rightIt (itR r sub) = true:=by
 rw [rightIt_sub r sub zID]
 unfold rightR rightDr at h
 simp only [Bool.and_eq_true,List.all_cons,List.all_nil] at h
 exact h.1.1.2.1
theorem rightR_last {r:RwP} (h:rightR r = true):r.Node ≠ lastS:=by
 unfold rightR at h
 simp only [Bool.and_eq_true,decide_eq_true_eq] at h
 exact h.2
theorem rightR_S {r:RwP} (h:rightR r = true):rightS r.Node = true:=by
 have:=rightR_it h zID
 unfold rightIt at this
 simp only [Bool.and_eq_true] at this
 exact this.1.1.1.1.1.1
theorem rise_items {l:List It}:riseB (fun a b:It=>cmpS a.Node b.Node) l = true ↔ l.Pairwise (fun a b=>cmpS a.Node b.Node < 0):=riseB_pw (fun a b:It=>cmpS a.Node b.Node) (fun _ _ _=>cmpS_trans) l
theorem kids_rise {rs:List RwP} (T:TreeOk rs) (p:St):(kidsZ rs p).Pairwise (fun a b=>cmpS a.Node b.Node < 0):=(riseR_pw T.rise).sublist List.filter_sublist
theorem right_its {rs:List RwP} (T:TreeOk rs) {k:Nat} {p:St} (hl:(kidsZ rs p).length ≤ 1000):rightDr (itsZ H rs k p) = true:=by
 cases k with
 | zero=>rfl
 | succ k =>
  unfold rightDr
  simp only [Bool.and_eq_true,decide_eq_true_eq,List.all_eq_true]
  refine ⟨⟨by simpa [itsZ] using hl,fun x hx=>?_⟩,?_⟩
  ·simp only [itsZ,List.mem_map] at hx
   obtain ⟨r,hr,rfl⟩:=hx
   exact rightR_it (T.ok r (mem_kids.1 hr).1) _
  ·rw [rise_items]
   show ((kidsZ rs p).map _).Pairwise _
   rw [List.pairwise_map]
   exact kids_rise T p
theorem cmp_last {s:St} (h:rightS s = true) (hn:s ≠ lastS):cmpS s lastS < 0:=by
 obtain ⟨t,r⟩:=s
 unfold rightS at h
 simp only [Bool.and_eq_true,decide_eq_true_eq] at h
 have:¬ (t = 1099511627776 ∧ r = 65536):=fun e=>hn (by rw [e.1,e.2];rfl)
 unfold cmpS lastS
 simp only
 repeat' split
 all_goals omega
theorem right_trash (sub:ID):rightIt (trashI sub) = true:=by
 show rightIt (trashI zID) = true
 decide
theorem right_root {rs:List RwP} (T:TreeOk rs) (hl:(kidsZ rs zSt).length ≤ 999):rightDr (rootZ H rs) = true:=by
 have h1:rightDr (itsZ H rs rs.length zSt) = true:=right_its T (by omega)
 have hlen:(itsZ H rs rs.length zSt).length ≤ 999:=by
  cases hk:rs.length with
  | zero=>simp [itsZ]
  | succ k=>simpa [itsZ] using hl
 unfold rightDr at h1 ⊢
 simp only [Bool.and_eq_true,decide_eq_true_eq,List.all_eq_true] at h1 ⊢
 refine ⟨⟨by unfold rootZ;simp;omega,fun x hx=>?_⟩,?_⟩
 ·unfold rootZ at hx
  rcases List.mem_append.1 hx with hx | hx
  ·exact h1.1.2 x hx
  ·rw [List.mem_singleton] at hx;subst hx;exact right_trash _
 ·rw [rise_items] at h1 ⊢
  unfold rootZ
  rw [List.pairwise_append]
  refine ⟨h1.2,by simp,fun a ha b hb=>?_⟩
  rw [List.mem_singleton] at hb;subst hb
  cases hk:rs.length with
  | zero=>rw [hk] at ha;cases ha
  | succ k =>
   rw [hk] at ha
   simp only [itsZ,List.mem_map] at ha
   obtain ⟨r,hr,rfl⟩:=ha
   have:=T.ok r (mem_kids.1 hr).1
   exact cmp_last (rightR_S this) (rightR_last this)
end
/-! objects -/
open Classical in
noncomputable def putX (o:List (List UInt8)) (b:List UInt8):List (List UInt8):=if b ∈ o then o else o ++ [b]
theorem mem_putX {o:List (List UInt8)} {b x:List UInt8}:x ∈ putX o b ↔ x ∈ o ∨ x = b:=by
 unfold putX
 split
 ·rename_i h
  exact ⟨.inl,fun h'=>h'.elim id (by rintro rfl;exact h)⟩
 ·simp
noncomputable def putAll (o:List (List UInt8)) (l:List (List UInt8)):List (List UInt8):=l.foldl putX o
theorem mem_putAll {x:List UInt8}:∀ {l o:List (List UInt8)},x ∈ putAll o l ↔ x ∈ o ∨ x ∈ l
 | [],o=>by simp [putAll]
 | b :: l,o=>by
  show x ∈ putAll (putX o b) l ↔ _
  rw [mem_putAll,mem_putX,List.mem_cons,or_assoc]
theorem putAll_tail:∀ (l o:List (List UInt8)),∃ E,putAll o l = o ++ E ∧ E.Nodup ∧ ∀ b,b ∈ E ↔ b ∈ l ∧ b ∉ o
 | [],o=>⟨[],by simp [putAll],List.nodup_nil,by simp⟩
 | b :: l,o=>by
  by_cases hb:b ∈ o
  ·obtain ⟨E,h1,h2,h3⟩:=putAll_tail l o
   refine ⟨E,by show putAll (putX o b) l = _;unfold putX;rw [if_pos hb];exact h1,h2,fun x=>?_⟩
   rw [h3,List.mem_cons]
   exact ⟨fun h=>⟨.inr h.1,h.2⟩,fun h=>⟨h.1.elim (fun e=>absurd (by rw [e];exact hb) h.2) id,h.2⟩⟩
  ·obtain ⟨E,h1,h2,h3⟩:=putAll_tail l (o ++ [b])
   refine ⟨b :: E,by show putAll (putX o b) l = _;unfold putX;rw [if_neg hb,h1,List.append_assoc];rfl,?_,fun x=>?_⟩
   ·rw [List.nodup_cons]
    exact ⟨fun h=>((h3 b).1 h).2 (by simp),h2⟩
   ·rw [List.mem_cons,h3,List.mem_cons,List.mem_append,List.mem_singleton]
    constructor
    ·rintro (rfl | ⟨h,hn⟩)
     ·exact ⟨.inl rfl,hb⟩
     ·exact ⟨.inr h,fun e=>hn (.inl e)⟩
    ·rintro ⟨rfl | h,hn⟩
     ·exact .inl rfl
     ·by_cases e:x = b
      ·exact .inl e
      ·exact .inr ⟨h,fun e'=>e'.elim hn e⟩
open Classical in
theorem len_same {α:Type} {l m:List α} (hl:l.Nodup) (hm:m.Nodup) (h:∀ x,x ∈ l ↔ x ∈ m):l.length = m.length :=
 Nat.le_antisymm (nd_leS l m hl fun x hx=>(h x).1 hx) (nd_leS m l hm fun x hx=>(h x).2 hx)
theorem putAll_len {l o S:List (List UInt8)} (hn:S.Nodup) (h:∀ b,b ∈ S ↔ b ∈ l ∧ b ∉ o):(putAll o l).length = o.length + S.length:=by
 obtain ⟨E,h1,h2,h3⟩:=putAll_tail l o
 rw [h1,List.length_append,len_same h2 hn fun x=>(h3 x).trans (h x).symm]
structure NoClash (H:List UInt8 → ID) (objs:List (List UInt8)):Prop where
 nz:∀ b ∈ objs,H b ≠ zID
 inj:∀ a ∈ objs,∀ b ∈ objs,H a = H b → a = b
def findO (H:List UInt8 → ID) (objs:List (List UInt8)) (id:ID):Option (List UInt8):=objs.find? fun b=>decide (H b = id)
theorem NoClash.find {H:List UInt8 → ID} {objs:List (List UInt8)} (h:NoClash H objs) {b:List UInt8} (hb:b ∈ objs):findO H objs (H b) = some b:=by
 unfold findO
 cases hf:objs.find? fun x=>decide (H x = H b) with
 | none =>
  rw [List.find?_eq_none] at hf
  exact absurd (hf b hb) (by simp)
 | some x =>
  have h1:=List.mem_of_find?_eq_some hf
  have h2:=List.find?_some hf
  rw [decide_eq_true_eq] at h2
  rw [h.inj x h1 b hb h2]
/-! loading -/
def dirO (H:List UInt8 → ID) (objs:List (List UInt8)) (id:ID):Int × List It:=match findO H objs id with
 | none=>(4,[])
 | some b=>match rdDr b with
  | none=>(130,[])
  | some l=>if l.isEmpty then (130,[]) else (0,l)
def rowZ (p:St) (x:It):RwP:=⟨x.Node,p,x.At,x.Name,x.Heads⟩
def badZ (acc:List RwP) (x:It):Prop:=x.Node = lastS ∨ x.Node ∈ acc.map (·.Node) ∨ acc.length = 5000
inductive Und (D:ID → Int × List It):St → List It → List RwP → Int → List RwP → Prop
 | nil {p acc}:Und D p [] acc 0 acc
 | bad {p x l acc}:badZ acc x → Und D p (x :: l) acc 130 acc
 | leaf {p x l acc e acc'}:¬ badZ acc x → x.Sub = zID → Und D p l (acc ++ [rowZ p x]) e acc' → Und D p (x :: l) acc e acc'
 | dirE {p x l acc}:¬ badZ acc x → x.Sub ≠ zID → (D x.Sub).1 ≠ 0 → Und D p (x :: l) acc (D x.Sub).1 (acc ++ [rowZ p x])
 | subE {p x l acc e acc1}:¬ badZ acc x → x.Sub ≠ zID → (D x.Sub).1 = 0 → Und D x.Node (D x.Sub).2 (acc ++ [rowZ p x]) e acc1 → e ≠ 0 → Und D p (x :: l) acc e acc1
 | sub {p x l acc acc1 e acc'}:¬ badZ acc x → x.Sub ≠ zID → (D x.Sub).1 = 0 → Und D x.Node (D x.Sub).2 (acc ++ [rowZ p x]) 0 acc1 → Und D p l acc1 e acc' → Und D p (x :: l) acc e acc'
theorem row_it {p:St} {r:RwP} (h:r.Parent = p) (sub:ID):rowZ p (itR r sub) = r:=by cases r;subst h;rfl
theorem und_good {H:List UInt8 → ID} {rs:List RwP} (T:TreeOk rs) {D:ID → Int × List It} (hD:∀ k p,hgtZ rs k p → itsZ H rs k p ≠ [] → (∃ r ∈ rs,r.Node = p) → D (nmZ H (itsZ H rs k p)) = (0,itsZ H rs k p) ∧ nmZ H (itsZ H rs k p) ≠ zID) :
  ∀ (k:Nat) (p:St) (ks:List RwP) (acc:List RwP) (e:Int) (acc':List RwP),(∀ r ∈ ks,r ∈ kidsZ rs p) → (∀ r ∈ ks,hgtZ rs k r.Node) → (acc ++ ks.flatMap fun r=>r :: dfsZ rs k r.Node).Pairwise (fun a b=>a.Node ≠ b.Node) → (∀ r ∈ acc,r ∈ rs) →
   Und D p (ks.map fun r=>itR r (nmZ H (itsZ H rs k r.Node))) acc e acc' → e = 0 ∧ acc' = acc ++ ks.flatMap fun r=>r :: dfsZ rs k r.Node:=by
 have hlen:∀ (acc l:List RwP),(acc ++ l).Pairwise (fun a b=>a.Node ≠ b.Node) → (∀ r ∈ acc,r ∈ rs) → (∀ r ∈ l,r ∈ rs) → l ≠ [] → acc.length ≠ 5000:=fun acc l hp ha hl hne=>by
  have hn:((acc ++ l).map (·.Node)).Nodup:=by rw [List.Nodup,List.pairwise_map];exact hp
  have:=nd_leS _ (rs.map (·.Node)) hn fun x hx=>by
   rw [List.mem_map] at hx ⊢
   obtain ⟨r,hr,rfl⟩:=hx
   exact ⟨r,(List.mem_append.1 hr).elim (ha r) (hl r),rfl⟩
  simp only [List.length_map,List.length_append] at this
  have h1:=List.length_pos_iff.2 hne
  have h2:=T.len
  omega
 intro k
 induction k with
 | zero =>
  intro p ks
  induction ks with
  | nil =>
   intro acc e acc' _ _ _ _ h
   cases h
   simp
  | cons r ks ih =>
   intro acc e acc' hk hh hp ha h
   have hr:=mem_kids.1 (hk r (by simp))
   have hgood:¬ badZ acc (itR r (nmZ H (itsZ H rs 0 r.Node))):=by
    rintro (h | h | h)
    ·exact rightR_last (T.ok r hr.1) h
    ·obtain ⟨q,hq,e⟩:=List.mem_map.1 h
     exact (List.pairwise_append.1 hp).2.2 q hq r (by simp) e
    ·refine hlen acc _ hp ha (fun x hx=>?_) (by simp) h
     simp only [List.mem_flatMap] at hx
     obtain ⟨q,hq,hx⟩:=hx
     rcases List.mem_cons.1 hx with rfl | hx
     ·exact (mem_kids.1 (hk _ hq)).1
     ·exact dfs_sub _ _ _ hx
   have hrow:=row_it hr.2 (nmZ H (itsZ H rs 0 r.Node))
   have e1:acc ++ (r :: ks).flatMap (fun r=>r :: dfsZ rs 0 r.Node) = (acc ++ [r]) ++ ks.flatMap fun r=>r :: dfsZ rs 0 r.Node:=by simp [dfsZ]
   have next:∀ acc',Und D p (ks.map fun r=>itR r (nmZ H (itsZ H rs 0 r.Node))) (acc ++ [r]) e acc' → e = 0 ∧ acc' = acc ++ (r :: ks).flatMap fun r=>r :: dfsZ rs 0 r.Node:=fun acc' h=>by
    rw [e1]
    refine ih (acc ++ [r]) e acc' (fun q hq=>hk q (List.mem_cons_of_mem _ hq)) (fun q hq=>hh q (List.mem_cons_of_mem _ hq)) (by rw [← e1];exact hp) (fun q hq=>?_) h
    rcases List.mem_append.1 hq with hq | hq
    ·exact ha q hq
    ·rw [List.mem_singleton] at hq;subst hq;exact hr.1
   have hz:(itR r (nmZ H (itsZ H rs 0 r.Node))).Sub = zID:=rfl
   cases h with
   | bad hb=>exact absurd hb hgood
   | leaf _ _ h=>rw [hrow] at h;exact next _ h
   | dirE _ hs _=>exact absurd hz hs
   | subE _ hs _ _ _=>exact absurd hz hs
   | sub _ hs _ _ _=>exact absurd hz hs
 | succ k ihk =>
  intro p ks
  induction ks with
  | nil =>
   intro acc e acc' _ _ _ _ h
   cases h
   simp
  | cons r ks ih =>
   intro acc e acc' hk hh hp ha h
   have hr:=mem_kids.1 (hk r (by simp))
   have hgood:¬ badZ acc (itR r (nmZ H (itsZ H rs (k + 1) r.Node))):=by
    rintro (h | h | h)
    ·exact rightR_last (T.ok r hr.1) h
    ·obtain ⟨q,hq,e⟩:=List.mem_map.1 h
     exact (List.pairwise_append.1 hp).2.2 q hq r (by simp) e
    ·refine hlen acc _ hp ha (fun x hx=>?_) (by simp) h
     simp only [List.mem_flatMap] at hx
     obtain ⟨q,hq,hx⟩:=hx
     rcases List.mem_cons.1 hx with rfl | hx
     ·exact (mem_kids.1 (hk _ hq)).1
     ·exact dfs_sub _ _ _ hx
   have hrow:=row_it hr.2 (nmZ H (itsZ H rs (k + 1) r.Node))
   have e1:acc ++ (r :: ks).flatMap (fun r=>r :: dfsZ rs (k + 1) r.Node) = (acc ++ [r] ++ dfsZ rs (k + 1) r.Node) ++ ks.flatMap fun r=>r :: dfsZ rs (k + 1) r.Node:=by simp
   have ha1:∀ q ∈ acc ++ [r],q ∈ rs:=fun q hq=>by
    rcases List.mem_append.1 hq with hq | hq
    ·exact ha q hq
    ·rw [List.mem_singleton] at hq;subst hq;exact hr.1
   have next:∀ acc',Und D p (ks.map fun r=>itR r (nmZ H (itsZ H rs (k + 1) r.Node))) (acc ++ [r] ++ dfsZ rs (k + 1) r.Node) e acc' → e = 0 ∧ acc' = acc ++ (r :: ks).flatMap fun r=>r :: dfsZ rs (k + 1) r.Node:=fun acc' h=>by
    rw [e1]
    refine ih _ e acc' (fun q hq=>hk q (List.mem_cons_of_mem _ hq)) (fun q hq=>hh q (List.mem_cons_of_mem _ hq)) (by rw [← e1];exact hp) (fun q hq=>?_) h
    rcases List.mem_append.1 hq with hq | hq
    ·exact ha1 q hq
    ·exact dfs_sub _ _ _ hq
   have hsub:∀ e acc1,Und D r.Node (itsZ H rs (k + 1) r.Node) (acc ++ [r]) e acc1 → e = 0 ∧ acc1 = acc ++ [r] ++ dfsZ rs (k + 1) r.Node:=fun e acc1 h=>by
    refine ihk r.Node (kidsZ rs r.Node) (acc ++ [r]) e acc1 (fun q hq=>hq) (hh r (by simp)) ?_ ha1 h
    have hp2:=hp
    rw [e1] at hp2
    exact (List.pairwise_append.1 hp2).1
   have hS:(itR r (nmZ H (itsZ H rs (k + 1) r.Node))).Sub = nmZ H (itsZ H rs (k + 1) r.Node):=rfl
   have hN:(itR r (nmZ H (itsZ H rs (k + 1) r.Node))).Node = r.Node:=rfl
   by_cases he:itsZ H rs (k + 1) r.Node = []
   ·have hz:(itR r (nmZ H (itsZ H rs (k + 1) r.Node))).Sub = zID:=by rw [hS,he];rfl
    cases h with
    | bad hb=>exact absurd hb hgood
    | leaf _ _ h =>
     rw [hrow] at h
     refine next _ ?_
     rw [its_nil he,List.append_nil];exact h
    | dirE _ hs _=>exact absurd hz hs
    | subE _ hs _ _ _=>exact absurd hz hs
    | sub _ hs _ _ _=>exact absurd hz hs
   ·obtain ⟨hd,hnz⟩:=hD (k + 1) r.Node (hh r (by simp)) he ⟨r,hr.1,rfl⟩
    cases h with
    | bad hb=>exact absurd hb hgood
    | leaf _ hs _=>exact absurd hs hnz
    | dirE _ _ hs=>rw [hS,hd] at hs;exact absurd rfl hs
    | subE _ _ _ h hne =>
     rw [hS,hd,hN,hrow] at h
     exact absurd (hsub _ _ h).1 hne
    | sub _ _ _ h h2 =>
     rw [hS,hd,hN,hrow] at h
     rw [(hsub _ _ h).2] at h2
     exact next _ h2
end Go.Proofs.YtnkdnbjmhoegkaaGreat
