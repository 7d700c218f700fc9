/- Plain: delta.Make as a function of bytes; what comes out of what it makes; its length. Plain: what pack.Read and pack.Write tell. Entries of a pack in memory. Results of three parts: an entry, an ID, a number. -/
import Derived.Test.YtahllkifmmjbdaaMakePKp
import Derived.Test.YtahllkifmmjbdaaFlushKp
import Derived.Test.YtahllkifmmjbdaaPkBKp
import Derived.Test.YtahllkifmmjbdaaPkCKp
set_option linter.unusedVariables false
set_option linter.unusedSimpArgs false
namespace Go.Proofs.Ytahllkifmmjbdaa
def rounds (n:Nat):Nat:=if n < 8 then 0 else (n - 8) / 4 + 1
theorem rounds_is (n k:Nat) (h1:k = 0 ∨ 4 * (k - 1) + 8 ≤ n) (h2:n < 4 * k + 8):k = rounds n:=by
 unfold rounds
 split <;> omega
def madeL (base target:List UInt8):List UInt8 × Nat:=mkLd base target (plcN base (rounds base.length)) target.length 0 0 (numB target.length)
def madeO (base target:List UInt8):List UInt8:=flushF target (madeL base target).1 (madeL base target).2 target.length
def plainD (target:List UInt8):List UInt8:=numB target.length ++ numB (2 * target.length) ++ target
def makeD (base target:List UInt8):Except Nat (List UInt8) :=
 if 1048576 < target.length then .error 2
 else if target = [] then .ok (numB 0)
 else if 0 ≤ Lib.index base target then .ok (numB target.length ++ numB (2 * target.length + 1) ++ numB (Lib.index base target).toNat)
 else if (plainD target).length < (madeO base target).length then .ok (plainD target) else .ok (madeO base target)
theorem plc_all (base:List UInt8) (k:SKey):(plcN base (rounds base.length) k).length ≤ 4 ∧ ∀ x ∈ plcN base (rounds base.length) k,x + 8 ≤ base.length ∧ (base.drop x).take 8 = k.1:=by
 have h1:4 * rounds base.length ≤ base.length + 0:=by unfold rounds;split <;> omega
 have h2:rounds base.length = 0 ∨ 4 * (rounds base.length - 1) + 8 ≤ base.length:=by unfold rounds;split <;> omega
 exact plcN_ok base _ h1 h2 k
structure PeP where
 b:List UInt8
 ch:Nat
deriving DecidableEq,Inhabited
def baseF (s:RS) (sort:Nat) (ahead:List PeP):Except Nat PeP × RS :=
 if sort = 1 then
  let r:=rdNum 65535 s
  if r.2.2 = true ∨ r.1 < 1 then (.error 20,r.2)
  else if ahead.length < r.1 then (.error 70,r.2)
  else (.ok (ahead.getD (ahead.length - r.1) ⟨[],0⟩),r.2)
 else
  let r:=rdId s
  if r.2.2 = true then (.error 20,r.2) else (.error 70,r.2)
def entF (s:RS) (ahead:List PeP):Except Nat PeP × RS :=
 let r:=rdNum 2 s
 if r.2.2 = true then (.error 20,r.2)
 else if r.1 = 0 then
  let t:=rdText 1048576 r.2
  if t.2.2 = true then (.error 20,t.2) else (.ok ⟨t.1,0⟩,t.2)
 else
  match baseF r.2 r.1 ahead with
  | (.error e,s2)=>(.error e,s2)
  | (.ok on,s2) =>
   let t:=rdText 1048576 s2
   if t.2.2 = true then (.error 20,t.2)
   else if 8 ≤ on.ch then (.error 80,t.2)
   else match applyD on.b t.1 with
    | .error e=>(.error e,t.2)
    | .ok r=>(.ok ⟨r,on.ch + 1⟩,t.2)
def rdsF:Nat → RS → List PeP → Except Nat (List PeP × RS)
 | 0,s,acc=>.ok (acc,s)
 | m + 1,s,acc =>
  match entF s acc with
  | (.error e,_)=>.error e
  | (.ok x,s')=>if nameH x.b ∈ acc.map (fun y=>nameH y.b) then .error 5 else rdsF m s' (acc ++ [x])
def okPk (l:List UInt8):Bool:=decide (8 ≤ l.length) && preC l && decide (unfour (l.drop (l.length - 4)) = crcC (l.take (l.length - 4)))
def readF (l:List UInt8):Except Nat (List PeP) :=
 if okPk l = true then
  let r:=rdNum 65535 ((l.take (l.length - 4)).drop 4,false)
  if r.2.2 = true then .error 20
  else match rdsF r.1 r.2 [] with
   | .error e=>.error e
   | .ok (es,s)=>if s.2 = true ∨ s.1 ≠ [] then .error 20 else .ok es
 else .error 20
theorem readF_unfit {l:List UInt8} (h:¬ fitC l):readF l = .error 20:=by
 unfold readF
 rw [if_neg]
 intro e
 unfold okPk at e
 rw [Bool.and_eq_true,Bool.and_eq_true,decide_eq_true_eq,decide_eq_true_eq] at e
 exact h ⟨by omega,e.2⟩
theorem readF_fit {l:List UInt8} (h:okPk l = true):8 ≤ l.length ∧ fitC l:=by
 unfold okPk at h
 rw [Bool.and_eq_true,Bool.and_eq_true,decide_eq_true_eq,decide_eq_true_eq] at h
 exact ⟨h.1.1,by omega,h.2⟩
def textF (a b:List UInt8):List UInt8:=a ++ numB b.length ++ b
def dOf:Except Nat (List UInt8) → List UInt8
 | .ok d=>d
 | .error _=>[]
def stepF (b:List UInt8) (all:List PeP) (back:Nat) (r:List UInt8 × Nat):List UInt8 × Nat :=
 let on:=all.getD (all.length - back) ⟨[],0⟩
 if 8 ≤ on.ch then r
 else
  let x:=textF ([1] ++ numB back) (dOf (makeD on.b b))
  if x.length < r.1.length then (x,on.ch + 1) else r
def shortL (b:List UInt8) (all:List PeP):Nat → List UInt8 × Nat
 | 0=>(textF [0] b,0)
 | k + 1=>stepF b all (k + 1) (shortL b all k)
def shortF (b:List UInt8) (all:List PeP):List UInt8 × Nat:=shortL b all (min 10 all.length)
def onceF:List (List UInt8) → List (List UInt8) → List (List UInt8)
 | [],out=>out
 | b :: l,out=>onceF l (if b ∈ out then out else out ++ [b])
def putsF:List (List UInt8) → List UInt8 → List PeP → List UInt8
 | [],out,_=>out
 | b :: l,out,all=>putsF l (out ++ (shortF b all).1) (all ++ [⟨b,(shortF b all).2⟩])
def writeF (objs:List (List UInt8)):List UInt8:=sealC (putsF (onceF objs []) ([80,76,82,68] ++ numB (onceF objs []).length) [])
theorem stepF_len (b:List UInt8) (all:List PeP) (k:Nat) (r:List UInt8 × Nat):(stepF b all k r).1.length ≤ r.1.length:=by
 unfold stepF
 simp only
 split
 ·exact Nat.le_refl _
 ·split
  ·rename_i h;exact Nat.le_of_lt h
  ·exact Nat.le_refl _
theorem shortL_len (b:List UInt8) (all:List PeP):∀ k,(shortL b all k).1.length ≤ (textF [0] b).length
 | 0=>Nat.le_refl _
 | k + 1=>Nat.le_trans (stepF_len b all _ _) (shortL_len b all k)
end Go.Proofs.Ytahllkifmmjbdaa
namespace Go.Proofs.Ytahllkifmmjbdaa
open Go.RowKit Go.Maps Go.Sort
structure PeW where
 A:Option Addr
 n:Nat
 c:Nat
 ch:Nat
def codPe:Cod PeW:=⟨53,2,fun x=>[.slice x.A x.n x.c,.int .i64 (x.ch:Int)],⟨none,0,0,0⟩,fun _=>rfl,by decide,fun x u hu=>by
 simp only [List.mem_cons,List.not_mem_nil,or_false] at hu
 rcases hu with rfl | rfl <;> rfl,fun x y h=>by
 obtain ⟨A,n,c,k⟩:=x;obtain ⟨A',n',c',k'⟩:=y
 simp only [List.cons.injEq,Value.slice.injEq,Value.int.injEq,true_and,and_true] at h
 obtain ⟨⟨rfl,h1,h2⟩,h3⟩:=h
 have e1:n = n':=by omega
 have e2:c = c':=by omega
 have e3:k = k':=by omega
 subst e1 e2 e3
 rfl⟩
theorem etPe:ET Try.prog 49 codPe.t codPe.n 32:=ET.mk' (z:=.agg #[.slice none 0 0,.int .i64 0]) Try.underlying49 (by kernel_rfl) rfl (by decide) (by decide)
def SlT (w:World) (A:Option Addr) (l:List UInt8):Prop:=l ≠ [] → ∃ (g off:Nat) (cur:Array Value) (z:Nat × Nat),A = some ⟨g,off,none⟩ ∧ w.heap[g]? = some (.cells cur 5 z) ∧ Sl w (some ⟨g,off,none⟩) (bv l)
theorem SlT.sl {w:World} {A:Option Addr} {l:List UInt8} (h:SlT w A l):Sl w A (bv l):=by
 cases l with
 | nil=>exact Sl.nil _ _
 | cons b l =>
  obtain ⟨g,off,cur,z,rfl,_,h⟩:=h (by simp)
  exact h
theorem SlT.frT {w w':World} {M:Nat → Prop} {A:Option Addr} {l:List UInt8} (h:SlT w A l) (f:Fr M w w') (hM:∀ g,M g → ∀ (cur:Array Value) (z:Nat × Nat),w.heap[g]? ≠ some (.cells cur 5 z)):SlT w' A l:=by
 intro hl
 obtain ⟨g,off,cur,z,rfl,hg,hs⟩:=h hl
 have hn:¬ M g:=fun e=>hM g e cur z hg
 exact ⟨g,off,cur,z,rfl,(f.block g (Array.getElem?_eq_some_iff.1 hg).1 hn).trans hg,hs.fr f (fun a ha=>by cases ha;exact hn)⟩
theorem SlT.fr0 {w w':World} {A:Option Addr} {l:List UInt8} (h:SlT w A l) (f:Fr noB w w'):SlT w' A l:=h.frT f (fun g e=>absurd e (by simp [noB]))
theorem SlT.own {w:World} {base n:Nat} {A:Option Addr} {c:Nat} {l:List UInt8} (h:w.ownsRow base 5 1 (.slice A n c) n (bv l)):SlT w A l:=by
 intro hl
 have hs:=Sl.own h
 obtain ⟨g,off,rfl,_,_⟩:=hs (bv_ne hl)
 rcases h.2 with ⟨hv,_⟩ | ⟨g',cap,cur,hv,_,hg,_⟩
 ·cases hv
 ·injection hv with hv
  injection hv with hv
  injection hv with h1 h2
  subst h1 h2
  exact ⟨_,_,cur,_,rfl,hg,hs⟩
theorem no8 {w:World} {g:Nat} {t:TypeId} {cs:Array Value} {z':Nat × Nat} (h:w.heap[g]? = some (.cells cs t z')) (ht:t ≠ 5):∀ k,oneB g k → ∀ (cur:Array Value) (z:Nat × Nat),w.heap[k]? ≠ some (.cells cur 5 z):=by
 rintro k rfl cur z e
 rw [h] at e
 injection e with e
 injection e with _ e
 exact ht e
structure PeIn (w:World) (r:PeW) (x:PeP):Prop where
 len:x.b.length = r.n
 cap:r.n ≤ r.c
 sl:SlT w r.A x.b
 bd:x.b.length ≤ 1048576
 ch:x.ch = r.ch
 lo:x.ch ≤ 8
 nil:r.A = none → r.c = 0
theorem PeIn.fr0 {w w':World} {r:PeW} {x:PeP} (h:PeIn w r x) (f:Fr noB w w'):PeIn w' r x:=⟨h.len,h.cap,h.sl.fr0 f,h.bd,h.ch,h.lo,h.nil⟩
structure EsIn (w:World) (rs:List PeW) (xs:List PeP):Prop where
 len:rs.length = xs.length
 at_:∀ i (h:i < rs.length) (h':i < xs.length),PeIn w rs[i] xs[i]
theorem EsIn.nil (w:World):EsIn w [] []:=⟨rfl,fun i h=>absurd h (by simp)⟩
theorem EsIn.fr0 {w w':World} {rs:List PeW} {xs:List PeP} (h:EsIn w rs xs) (f:Fr noB w w'):EsIn w' rs xs:=⟨h.len,fun i h1 h2=>(h.at_ i h1 h2).fr0 f⟩
theorem EsIn.snoc {w:World} {rs:List PeW} {xs:List PeP} (h:EsIn w rs xs) {r:PeW} {x:PeP} (k:PeIn w r x):EsIn w (rs ++ [r]) (xs ++ [x]):=by
 refine ⟨by simp [h.len],fun i h1 h2=>?_⟩
 rw [List.length_append,List.length_singleton] at h1 h2
 by_cases hi:i < rs.length
 ·rw [List.getElem_append_left hi,List.getElem_append_left (by rw [← h.len];exact hi)]
  exact h.at_ i hi _
 ·have e:i = rs.length:=by omega
  subst e
  rw [List.getElem_append_right (Nat.le_refl _),List.getElem_append_right (by rw [h.len];exact Nat.le_refl _)]
  simpa [h.len] using k
theorem cellPe {w:World} {g off:Nat} {l:List PeW} (h:Sl w (some ⟨g,off,none⟩) (codPe.row l)) (i:Nat) (hi:i < l.length):w.cell? ⟨g,off + i * 2,none⟩ = some (.slice l[i].A l[i].n l[i].c) ∧ w.cell? ⟨g,off + i * 2 + 1,none⟩ = some (.int .i64 (l[i].ch:Int)):=by
 have h1:=Cod.row_get (C:=codPe) l i 0 hi (.slice l[i].A l[i].n l[i].c) rfl
 have h2:=Cod.row_get (C:=codPe) l i 1 hi (.int .i64 (l[i].ch:Int)) rfl
 have hne:codPe.row l ≠ []:=by
  intro e
  rw [e] at h1
  simp at h1
 obtain ⟨g',off',e,_,hc⟩:=h hne
 injection e with e
 injection e with e1 e2
 subst e1 e2
 exact ⟨hc _ _ h1,hc _ _ h2⟩
theorem results_cct {fn:Func} {p u t:Tmp} {ty tu:TypeId} (h:fn.results = #[.cell p ty,.cell u tu,.tmp t]) (tmps:Array Value) (P:Program) (w:World) :
  (results fn tmps).run P w =
   ((asAddr (tmps.getD p undef)).run P w).andThen fun a w₁=>((loadVar ty a).run P w₁).andThen fun v w₂=>((asAddr (tmps.getD u undef)).run P w₂).andThen fun b w₃=>((loadVar tu b).run P w₃).andThen fun x w₄=>.ok (.tuple #[v,x,tmps.getD t undef]) w₄:=by
 simp only [results,h]
 simp [Sem.run_bind,Result.andThen]
theorem okPe:CodOk Try.prog codPe:=⟨⟨_,Try.underlying53,rfl⟩,by kernel_rfl,fun w=>(zero_of_info (P:=Try.prog) (t:=53) (v:=.agg (codPe.cs codPe.z).toArray) (n:=2) (by kernel_rfl)).1 w⟩
theorem lvPe {w:World} {R:Nat} {x:PeW} (h:Blk w R 53 (codPe.cs x)):(loadVar 53 ⟨R,0,none⟩).run Try.prog w = .ok (.agg (codPe.cs x).toArray) w:=by
 obtain ⟨d,h1,h2⟩:=okPe.und
 exact run_loadVar_mid (P:=Try.prog) w R 0 53 (codPe.cs x) d (fun j v hv=>by rw [Nat.zero_add,h.cell];exact hv) h1 h2 (by rw [codPe.len];exact okPe.info)
theorem lvId {w:World} {R:Nat} {x:ID} (hb:bxI w R = some x):(loadVar 37 ⟨R,0,none⟩).run Try.prog w = .ok (encI x) w:=by
 have:=run_loadVar_mid (P:=Try.prog) w R 0 37 (bv x.1) _ (rdI_rd (bxI_rd hb)) Try.underlying37 rfl (by rw [bv_length,x.2];exact infoID)
 rw [this]
 simp only [encI,idA_eq]
theorem ret_ein {fn:Func} {p u t:Tmp} (h:fn.results = #[.cell p 53,.cell u 37,.tmp t]) (tmps:Array Value) (w:World) (R U:Nat) (x:PeW) (y:ID) (v:Value)
  (hp:tmps.getD p undef = .pointer (some ⟨R,0,none⟩)) (hu:tmps.getD u undef = .pointer (some ⟨U,0,none⟩)) (hv:tmps.getD t undef = v) (hb:Blk w R 53 (codPe.cs x)) (hd:bxI w U = some y):(results fn tmps).run Try.prog w = .ok (.tuple #[.agg (codPe.cs x).toArray,encI y,v]) w:=by
 rw [results_cct h,hp,hu,hv]
 simp only [asAddr,Sem.run_pure,Result.andThen_ok,lvPe hb,lvId hd]
end Go.Proofs.Ytahllkifmmjbdaa
