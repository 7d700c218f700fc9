/- Plain: what is put is read again; a reader takes the same of longer bytes. -/
import Derived.Test.YtnkdnbjmhoegkaaGreatPathPKp
import Derived.Test.YtnkdnbjmhoegkaaGreatNumWKp
set_option linter.unusedVariables false
set_option linter.unusedSimpArgs false
namespace Go.Proofs.YtnkdnbjmhoegkaaGreat
theorem gnAux_nb (most:Nat) (t:List UInt8):∀ (n i u:Nat),i < 9 → n < 128 ^ (9 - i) → (n ≠ 0 ∨ i = 0) → u + n * 128 ^ i ≤ most → u + n * 128 ^ i ≤ 4611686018427387904 →
  gnAux most i u (numB n ++ t) = some (u + n * 128 ^ i,t):=by
 intro n
 induction n using Nat.strongRecOn with
 | _ n ih =>
  intro i u hi hn h0 hm h62
  by_cases h:n < 128
  ·rw [numB_small h]
   simp only [List.cons_append,List.nil_append,gnAux]
   have hb:(UInt8.ofNat n).toNat = n:=by simp;omega
   rw [hb,if_neg (by omega),if_neg (by omega),Nat.mod_eq_of_lt h,if_neg (by omega)]
  ·rw [numB_big h]
   simp only [List.cons_append,gnAux]
   have hb:(UInt8.ofNat (n % 128 + 128)).toNat = n % 128 + 128:=by simp;omega
   have hi8:i < 8:=by
    rcases Nat.lt_or_ge i 8 with h8 | h8
    ·exact h8
    ·have:i = 8:=by omega
     subst this
     simp at hn;omega
   rw [hb,if_neg (by omega),if_pos (by omega),show (n % 128 + 128) % 128 = n % 128 by omega]
   have e1:128 ^ (9 - i) = 128 * 128 ^ (9 - (i + 1)):=by rw [show 9 - i = 9 - (i + 1) + 1 by omega,Nat.pow_succ,Nat.mul_comm]
   have e2:128 ^ (i + 1) = 128 * 128 ^ i:=by rw [Nat.pow_succ,Nat.mul_comm]
   have e3:u + n % 128 * 128 ^ i + n / 128 * 128 ^ (i + 1) = u + n * 128 ^ i:=by
    rw [e2]
    have:=Nat.div_add_mod n 128
    have h2:n * 128 ^ i = (128 * (n / 128) + n % 128) * 128 ^ i:=by rw [this]
    rw [h2,Nat.add_mul,Nat.mul_comm 128 (n / 128),Nat.mul_assoc];omega
   have:=ih (n / 128) (by omega) (i + 1) (u + n % 128 * 128 ^ i) (by omega) (by rw [e1] at hn;omega) (.inl (by omega)) (by rw [e3];exact hm) (by rw [e3];exact h62)
   rw [this,e3]
theorem rdNum_nb (n:Nat) (t:List UInt8) (most:Nat) (hm:n ≤ most) (h62:n ≤ 4611686018427387904):rdNum most (numB n ++ t,false) = (n,(t,false)):=by
 unfold rdNum getN
 have:=gnAux_nb most t n 0 0 (by decide) (by simp;omega) (.inr rfl) (by simpa using hm) (by simpa using h62)
 simp only [Bool.false_eq_true,if_false,this]
 simp
theorem gnAux_mr (most:Nat) (rest:List UInt8):∀ (l:List UInt8) (i u n:Nat) (t:List UInt8),gnAux most i u l = some (n,t) → gnAux most i u (l ++ rest) = some (n,t ++ rest):=by
 intro l
 induction l with
 | nil=>intro i u n t h;simp [gnAux] at h
 | cons b l ih =>
  intro i u n t h
  simp only [List.cons_append,gnAux] at h ⊢
  split at h
  ·cases h
  ·rename_i h1
   rw [if_neg h1]
   split at h
   ·rename_i h2
    rw [if_pos h2];exact ih _ _ _ _ h
   ·rename_i h2
    rw [if_neg h2]
    split at h
    ·cases h
    ·rename_i h3
     rw [if_neg h3]
     simp only [Option.some.injEq,Prod.mk.injEq] at h ⊢
     exact ⟨h.1,by rw [h.2]⟩
structure Ext {α:Type} (f:RS → α × RS):Prop where
 ext:∀ s t e,(f (s,false)).2 = (t,false) → f (s ++ e,false) = ((f (s,false)).1,(t ++ e,false))
 go:∀ s,s.2 = true → (f s).2.2 = true
theorem Ext.num (most:Nat):Ext (rdNum most):=by
 refine ⟨fun s t e h=>?_,fun s h=>?_⟩
 ·unfold rdNum getN at *
  simp only [Bool.false_eq_true,if_false] at *
  cases hg:gnAux most 0 0 s with
  | none=>rw [hg] at h;simp at h
  | some x =>
   obtain ⟨n,r⟩:=x
   rw [hg] at h
   simp only [Prod.mk.injEq,and_true] at h
   subst h
   rw [gnAux_mr most e s 0 0 n r hg]
 ·unfold rdNum
  rw [if_pos h]
theorem Ext.take (n:Nat):Ext (rdTake n):=by
 refine ⟨fun s t e h=>?_,fun s h=>?_⟩
 ·unfold rdTake at *
  simp only [Bool.false_eq_true,false_or] at *
  split at h
  ·simp at h
  ·rename_i h1
   have h2:¬ (s ++ e).length < n:=by rw [List.length_append];omega
   rw [if_neg h2,if_neg h1]
   simp only [Prod.mk.injEq,and_true] at h ⊢
   subst h
   rw [List.take_append_of_le_length (by omega),List.drop_append_of_le_length (by omega)]
   exact ⟨rfl,rfl⟩
 ·unfold rdTake
  rw [if_pos (.inl h)]
theorem Ext.bind {α β:Type} {f:RS → α × RS} {g:α → RS → β × RS} (hf:Ext f) (hg:∀ a,Ext (g a)):Ext (fun s=>g (f s).1 (f s).2):=by
 refine ⟨fun s t e h=>?_,fun s h=>(hg _).go _ (hf.go _ h)⟩
 try dsimp only at h ⊢
 cases hb:(f (s,false)).2.2 with
 | true =>
  have:=(hg (f (s,false)).1).go _ hb
  rw [h] at this;cases this
 | false =>
  obtain ⟨r,hr⟩:∃ r,(f (s,false)).2 = (r,false):=⟨(f (s,false)).2.1,Prod.ext rfl hb⟩
  rw [hf.ext s r e hr]
  rw [hr] at h
  rw [hr]
  exact (hg _).ext r t e h
theorem Ext.pure {α β:Type} {f:RS → α × RS} (hf:Ext f) (k:α → β):Ext (fun s=>(k (f s).1,(f s).2)):=by
 refine ⟨fun s t e h=>?_,fun s h=>hf.go _ h⟩
 simp only at h
 rw [hf.ext s t e h]
theorem Ext.congr {α:Type} {f g:RS → α × RS} (hf:Ext f) (h:∀ s,g s = f s):Ext g:=by
 have:f = g:=funext fun s=>(h s).symm
 rw [← this];exact hf
theorem Ext.ret {α:Type} (a:α):Ext (fun s:RS=>(a,s)):=by
 refine ⟨fun s t e h=>?_,fun s h=>h⟩
 simp only [Prod.mk.injEq,and_true] at h ⊢
 rw [h];exact ⟨trivial,rfl⟩
theorem Ext.text (most:Nat):Ext (rdText most):=((Ext.num most).bind (g:=fun n=>rdTake n) fun n=>Ext.take n).congr fun s=>rfl
theorem Ext.id:Ext rdId:=((Ext.take 32).pure idOf).congr fun s=>rfl
theorem Ext.st:Ext rdSt:=((Ext.num 1099511627776).bind (g:=fun (t:Nat) s=>((⟨t,((rdNum 65536 s).1:Nat)⟩:St),(rdNum 65536 s).2)) fun t=>(Ext.num 65536).pure fun r=>(⟨t,r⟩:St)).congr fun s=>rfl
theorem Ext.all {α:Type} {f:RS → α × RS} (hf:Ext f) (n:Nat):Ext (rdAll f n):=by
 induction n with
 | zero=>exact (Ext.ret ([]:List α)).congr fun s=>rfl
 | succ n ih=>exact (hf.bind (g:=fun a s=>(a :: (rdAll f n s).1,(rdAll f n s).2)) fun a=>ih.pure fun l=>a :: l).congr fun s=>rfl
def rdDr0 (s:RS):List It × RS :=
 let n:=rdNum 1000 s
 rdMany rdIt n.1 n.2
def whole {α:Type} (f:RS → α × RS) (k:UInt8) (p:α → Bool) (b:List UInt8):Option α :=
 if (f (openR b k)).2 = ([],false) ∧ p (f (openR b k)).1 = true then some (f (openR b k)).1 else none
theorem rdDr_eq (b:List UInt8):rdDr b = whole rdDr0 2 rightDr b:=rfl
/-! what is put is read -/
def Rt {α:Type} (f:RS → α × RS) (b:α → List UInt8) (x:α):Prop:=∀ e,f (b x ++ e,false) = (x,(e,false))
theorem Rt.text {most:Nat} {l:List UInt8} (h:l.length ≤ most) (h62:most ≤ 4611686018427387904):Rt (rdText most) txB l:=by
 intro e
 unfold rdText txB
 rw [List.append_assoc,rdNum_nb _ _ _ h (by omega)]
 simp [rdTake]
theorem Rt.id (x:ID):Rt rdId (·.1) x:=by
 intro e
 unfold rdId rdTake
 have h:x.1.length = 32:=x.2
 obtain ⟨l,hl⟩:=x
 dsimp only at h ⊢
 have e1:List.take 32 (l ++ e) = l:=List.take_left' h
 have e2:List.drop 32 (l ++ e) = e:=List.drop_left' h
 have h3:¬ (l ++ e).length < 32:=by rw [List.length_append,h];omega
 simp only [Bool.false_eq_true,false_or,h3,if_false,e1,e2]
 have e3:idOf l = ⟨l,hl⟩:=by unfold idOf;exact dif_pos h
 rw [e3]
def sSt (s:St):Prop:=0 ≤ s.T ∧ s.T ≤ 1099511627776 ∧ 0 ≤ s.R ∧ s.R ≤ 65536
theorem sSt_of {s:St} (h:rightS s = true):sSt s:=by
 simp only [rightS,Bool.and_eq_true,decide_eq_true_eq] at h
 exact ⟨by omega,by omega,by omega,by omega⟩
theorem Rt.st {s:St} (h:sSt s):Rt rdSt stB s:=by
 intro e
 obtain ⟨h1,h2,h3,h4⟩:=h
 unfold rdSt stB
 rw [List.append_assoc,rdNum_nb _ _ _ (by omega) (by omega)]
 dsimp only
 rw [rdNum_nb _ _ _ (by omega) (by omega)]
 have e1:(s.T.toNat:Int) = s.T:=by omega
 have e2:(s.R.toNat:Int) = s.R:=by omega
 rw [e1,e2]
theorem Rt.hd {h:Hd} (hh:sSt h.At):Rt rdHd hdB h:=by
 intro e
 unfold rdHd hdB
 rw [List.append_assoc,Rt.st hh]
 dsimp only
 rw [Rt.id h.Data]
theorem Rt.many {α:Type} {f:RS → α × RS} {b:α → List UInt8}:∀ {l:List α},(∀ x ∈ l,Rt f b x) → ∀ e,rdMany f l.length (l.flatMap b ++ e,false) = (l,(e,false))
 | [],_,e=>rfl
 | x :: l,h,e=>by
  simp only [List.length_cons,rdMany,List.flatMap_cons,List.append_assoc]
  rw [h x (by simp)]
  simp only [Bool.false_eq_true,if_false]
  rw [Rt.many (fun y hy=>h y (by simp [hy])) e]
theorem Rt.all {α:Type} {f:RS → α × RS} {b:α → List UInt8}:∀ {l:List α},(∀ x ∈ l,Rt f b x) → ∀ e,rdAll f l.length (l.flatMap b ++ e,false) = (l,(e,false))
 | [],_,e=>rfl
 | x :: l,h,e=>by
  simp only [List.length_cons,rdAll,List.flatMap_cons,List.append_assoc]
  rw [h x (by simp)]
  dsimp only
  rw [Rt.all (fun y hy=>h y (by simp [hy])) e]
theorem nameOk_le {l:List UInt8} (h:nameOk l = true):l.length ≤ 60:=by
 simp only [nameOk,Bool.and_eq_true,decide_eq_true_eq] at h
 exact h.1.1.1.2
theorem Rt.it {x:It} (h:rightIt x = true):Rt rdIt itB x:=by
 intro e
 simp only [rightIt,Bool.and_eq_true,decide_eq_true_eq,List.all_eq_true] at h
 obtain ⟨⟨⟨⟨⟨⟨h1,h2⟩,h3⟩,h4⟩,h5⟩,h6⟩,h7⟩:=h
 unfold rdIt itB
 simp only [List.append_assoc]
 rw [Rt.st (sSt_of h1)]
 dsimp only
 rw [Rt.st (sSt_of h2)]
 dsimp only
 rw [Rt.text (nameOk_le h4) (by decide)]
 dsimp only
 rw [Rt.id x.Sub]
 dsimp only
 rw [rdNum_nb _ _ _ h5 (by omega)]
 dsimp only
 rw [Rt.many (fun y hy=>Rt.hd (sSt_of (h6 y hy).1.1))]
theorem Rt.dr {l:List It} (h:rightDr l = true):rdDr (drB l) = some l:=by
 have h0:=h
 simp only [rightDr,Bool.and_eq_true,decide_eq_true_eq,List.all_eq_true] at h
 obtain ⟨⟨h1,h2⟩,h3⟩:=h
 have e:rdDr0 (openR (drB l) 2) = (l,([],false)):=by
  have e0:openR (drB l) 2 = (numB l.length ++ (l.flatMap itB ++ []),false):=by unfold drB openR;simp
  rw [e0]
  unfold rdDr0
  rw [rdNum_nb _ _ _ h1 (by omega)]
  dsimp only
  rw [Rt.many (fun y hy=>Rt.it (h2 y hy))]
 rw [rdDr_eq]
 unfold whole
 rw [e,if_pos ⟨rfl,h0⟩]
theorem Rt.op {o:Opn} (h:goodOp o = true):Rt rdOp opB o:=by
 intro e
 have hg:=h
 have e0:rdOp0 (opB o ++ e,false) = (o,(e,false)):=by
  simp only [goodOp,Bool.and_eq_true] at h
  obtain ⟨⟨h1,h2⟩,h3⟩:=h
  unfold opB
  rw [if_pos hg]
  by_cases hk:o.Kind = 1
  ·rw [if_pos hk] at h3
   simp only [moveOk,Bool.and_eq_true,decide_eq_true_eq,Bool.or_eq_true] at h3
   obtain ⟨⟨⟨⟨h4,h5⟩,h6⟩,h7⟩,h8⟩:=h3
   have hp:sSt o.Parent:=by
    rcases h5 with h5 | h5
    ·exact sSt_of h5
    ·simp only [fixedS,Bool.and_eq_true,Bool.or_eq_true,decide_eq_true_eq] at h5
     exact ⟨by omega,by omega,by omega,by omega⟩
   rw [if_pos hk]
   simp only [List.append_assoc]
   unfold rdOp0
   have ek:o.Kind.toNat = 1:=by rw [hk];rfl
   rw [ek,rdNum_nb 1 _ 2 (by decide) (by decide)]
   dsimp only
   rw [Rt.st (sSt_of h1)]
   dsimp only
   rw [Rt.st (sSt_of h2)]
   dsimp only
   rw [if_pos rfl,Rt.st hp]
   dsimp only
   rw [Rt.text (nameOk_le h6) (by decide)]
   dsimp only
   have h9:o.Over = []:=List.length_eq_zero_iff.1 h8
   obtain ⟨k,a,b,c,d,f,g⟩:=o
   dsimp only at *
   subst hk h7 h9
   rfl
  ·rw [if_neg hk] at h3
   by_cases hk2:o.Kind = 2
   ·rw [if_pos hk2] at h3
    simp only [editOk,Bool.and_eq_true,decide_eq_true_eq,List.all_eq_true] at h3
    obtain ⟨⟨⟨⟨⟨⟨h4,h5⟩,h6⟩,h7⟩,h8⟩,h9⟩,h10⟩:=h3
    rw [if_neg hk]
    simp only [List.append_assoc]
    unfold rdOp0
    have ek:o.Kind.toNat = 2:=by rw [hk2];rfl
    rw [ek,rdNum_nb 2 _ 2 (by decide) (by decide)]
    dsimp only
    rw [Rt.st (sSt_of h1)]
    dsimp only
    rw [Rt.st (sSt_of h2)]
    dsimp only
    rw [if_neg (by decide),Rt.id o.Data]
    dsimp only
    rw [rdNum_nb _ _ _ h8 (by omega)]
    dsimp only
    rw [Rt.all (fun y hy=>Rt.st (sSt_of (h9 y hy).1))]
    obtain ⟨k,a,b,c,d,f,g⟩:=o
    dsimp only at *
    subst hk2 h5 h6
    rfl
   ·rw [if_neg hk2] at h3;cases h3
 unfold rdOp
 rw [e0,if_neg]
 simp [hg]
end Go.Proofs.YtnkdnbjmhoegkaaGreat
