/- Rows of ints of a call's own; maps from texts to such rows. The map of places: look-ups, and a place more. -/
import Derived.Test.YtahllkifmmjbdaaMapFKp
import Derived.Test.YtahllkifmmjbdaaStrsKp
import Derived.Test.YtahllkifmmjbdaaFlushKp
set_option linter.unusedVariables false
set_option linter.unusedSimpArgs false
namespace Go.Proofs.Ytahllkifmmjbdaa
open Go.RowKit Go.Maps
theorem etInts:ET Try.prog 115 3 1 8:=ET.mk' (z:=.int .i64 0) Try.underlying115 (by kernel_rfl) rfl (by decide) (by decide)
def iv (l:List Nat):List Value:=l.map fun (n:Nat)=>Value.int .i64 (n:Int)
@[simp] theorem iv_length (l:List Nat):(iv l).length = l.length:=by simp [iv]
theorem iv_append (l m:List Nat):iv (l ++ m) = iv l ++ iv m:=by simp [iv]
theorem iv_get (l:List Nat) (j:Nat) (h:j < l.length):(iv l)[j]? = some (.int .i64 ((l[j]:Nat):Int)):=by simp [iv,h]
theorem iv_one (l:List Nat):∀ u ∈ iv l,u.oneCell' = true:=by
 intro u hu;simp only [iv,List.mem_map] at hu;obtain ⟨b,_,rfl⟩:=hu;rfl
abbrev OwnI (w0 w:World) (A:Option Addr) (c:Nat) (l:List Nat):Prop:=w.ownsRow w0.heap.size 3 1 (.slice A l.length c) l.length (iv l)
theorem own_iv {w:World} {base:Nat} {e:TypeId} {n:Nat} {v:Value} {l:List Nat} (h:w.ownsRow base e 1 v n (iv l)):w.ownsRow base e 1 v l.length (iv l):=by
 have hn:n = l.length:=by have:=h.1;simp at this;omega
 subst hn;exact h
theorem step_appI (w0 w:World) {ops:Array Oper} {o:Oper} {a:Act} {K:Act → World → Prop} {Q:Exit → Act → World → Prop} {E:Prop} (hgd:o.guard = none) (s x:Operand)
  (ho:o.op = .call { callee:=.builtin .append,args:=#[s,x],argTypes:=#[115,115] })
  (As:Option Addr) (ns cs:Nat) (lo:List Nat) (hs:a.eval s = .slice As ns cs) (hns:lo.length = ns) (hown:OwnI w0 w As cs lo)
  (A:Option Addr) (m c:Nat) (news:List Nat) (hx:a.eval x = .slice A m c) (hr:Sl w A (iv news)) (hl:news.length = m)
  (hbytes:(lo.length + news.length) * 8 ≤ 140737488355328) (hbase:w0.heap.size ≤ w.heap.size)
  (h:∀ A' c' w',(lo ++ news).length ≤ c' → c' ≤ maxLen → OwnI w0 w' A' c' (lo ++ news) → w.grownBy w' (As.map (·.block)) →
   (A'.map (·.block) = As.map (·.block) ∨ A'.map (·.block) = some w.heap.size) → K (a.put o.dst (.slice A' (lo ++ news).length c')) w') :
  if Region.wanted o (yielded ops a.tmps) = true then Oper.wp Try.prog o a w K Q else E:=by
 have hw:Region.wanted o (yielded ops a.tmps) = true:=by simp [Region.wanted,hgd]
 rw [if_pos hw]
 subst hns
 refine wp_app w etInts s x ho w0.heap.size _ lo.length (iv lo) hs hown A m c (iv news) hx hr (by simp [hl]) (iv_one _) (by rw [← hl];omega) hbase ?_
 intro v' w' h1 h2 h3
 rw [← iv_append] at h1
 have h1':=own_iv h1
 obtain ⟨A',c',rfl,hc1,hc2⟩:=own_form h1'
 rw [ownBlock_slice,ownBlock_slice] at h3
 rw [ownBlock_slice] at h2
 exact h A' c' w' hc1 hc2 h1' h2 h3
def SKey:Type:={ l:List UInt8 // l.length ≤ maxLen }
instance:DecidableEq SKey:=inferInstanceAs (DecidableEq { l:List UInt8 // l.length ≤ maxLen })
def encSt (k:SKey):Value:=.string (str k.1)
theorem keyS:KeyEt Try.prog 9 encSt where
 K:=string_keyed Try.underlying9
 good k:=⟨_,WideMaps.keyOf_string_mk Try.underlying9 (s:=str k.1) (by simpa [str,ByteArray.size] using k.2)⟩
 inj a b h:=by
  have h':str a.1 = str b.1:=by injection h
  have:a.1.toArray = b.1.toArray:=by injection h'
  exact Subtype.ext (by simpa using this)
theorem wpList_put {P:Program} {w w2:World} {ops:Array Oper} {rest:List Oper} {o:Oper} {a:Act} {Q:Exit → Act → World → Prop} (hg:o.guard = none) (m x v:Operand) (t:TypeId) (hop:o.op = Op.mapUpdate t m x v)
  (r:Nat) (key val:Value) (hm:a.eval m = .map (some r)) (hx:a.eval x = key) (hv:a.eval v = val) (hrun:(Instr.mapUpdate t (.map (some r)) key val).run P w = .ok () w2)
  (hK:wpList P ops Q rest (a.put o.dst undef) w2):wpList P ops Q (o :: rest) a w:=by
 refine wpList_plain hg fun K' hK'=>?_
 unfold Oper.wp
 simp [execOp,hop,hm,hx,hv,hrun,Result.andThen]
 exact hK' _ _ hK
structure Plc (w0 w:World) (r:Nat) (g:SKey → List Nat):Prop where
 ex:∃ f:SKey → Option Value,MapF encSt w r f ∧ (∀ k,f k = none → g k = []) ∧ (∀ k v,f k = some v → ∃ A c,v = .slice A (g k).length c ∧ OwnI w0 w A c (g k)) ∧
  ∀ k k' v v' b,k ≠ k' → f k = some v → f k' = some v' → v.ownBlock = some b → v'.ownBlock ≠ some b
 fr:Fr noB w0 w
 rlo:w0.heap.size ≤ r
end Go.Proofs.Ytahllkifmmjbdaa
namespace Go.Proofs.Ytahllkifmmjbdaa
open Go.RowKit Go.Maps
theorem zeroInts (w:World):(zeroValue 115).run Try.prog w = .ok (.slice none 0 0) w:=by kernel_rfl
def pushG (g:SKey → List Nat) (k:SKey) (i:Nat):SKey → List Nat:=fun k'=>if k' = k then g k ++ [i] else g k'
section
variable {w0 w w':World} {r:Nat} {g:SKey → List Nat}
theorem Plc.new (w0 w:World) (h:Fr noB w0 w):Plc w0 (w.alloc (.map #[] 0)) w.heap.size (fun _=>[]) :=
 ⟨⟨fun _=>none,MapF.new encSt w,by simp,by simp,by simp⟩,h.alloc _,h.size⟩
theorem mapF_notOwn {f:SKey → Option Value} {A:Option Addr} {c:Nat} {l:List Nat} (hM:MapF encSt w r f) (ho:OwnI w0 w A c l):∀ b,A.map (·.block) = some b → b ≠ r:=by
 intro b hb
 obtain ⟨es,clock,hr,_⟩:=hM
 rcases ho.2 with ⟨hv,_⟩ | ⟨g',cap,cur,hv,_,hg,_⟩
 ·injection hv with hv;subst hv;cases hb
 ·injection hv with hv
  subst hv
  injection hb with hb
  subst hb
  rintro rfl
  rw [hr] at hg
  cases hg
theorem Plc.fr0 (h:Plc w0 w r g) (f:Fr noB w w'):Plc w0 w' r g:=by
 obtain ⟨fm,hM,h1,h2,h3⟩:=h.ex
 refine ⟨⟨fm,hM.fr f (by simp [noB]),h1,fun k v hv=>?_,h3⟩,h.fr.step0 f,h.rlo⟩
 obtain ⟨A,c,e,ho⟩:=h2 k v hv
 exact ⟨A,c,e,own_fr ho f (fun _ _=>by simp [noB])⟩
theorem Plc.lt (h:Plc w0 w r g):r < w.heap.size:=by
 obtain ⟨fm,hM,_⟩:=h.ex
 exact hM.lt
theorem Plc.frB (h:Plc w0 w r g) {p:Nat} {t:TypeId} {cs:List Value} (hp:Blk w p t cs) (ht:t ≠ 3) (f:Fr (oneB p) w w') (hlo:w0.heap.size ≤ p):Plc w0 w' r g:=by
 obtain ⟨fm,hM,h1,h2,h3⟩:=h.ex
 have hrp:¬ oneB p r:=by
  intro e
  have e':r = p:=e
  subst e'
  obtain ⟨es,clock,hr,_⟩:=hM
  unfold Blk at hp
  rw [hr] at hp;cases hp
 refine ⟨⟨fm,hM.fr f hrp,h1,fun k v hv=>?_,h3⟩,h.fr.step1 f hlo,h.rlo⟩
 obtain ⟨A,c,e,ho⟩:=h2 k v hv
 exact ⟨A,c,e,own_fr ho f (fun b hb=>hp.ne_own ho (Ne.symm ht) b hb)⟩
theorem Plc.look (h:Plc w0 w r g) (k:SKey):∃ A c,(Instr.lookup 112 (.map (some r)) (encSt k) false).run Try.prog w = .ok (.slice A (g k).length c) w ∧ OwnI w0 w A c (g k) ∧
  (∀ w',Fr (fun b=>A.map (·.block) = some b) w w' → (Instr.lookup 112 (.map (some r)) (encSt k) false).run Try.prog w' = .ok (.slice A (g k).length c) w') ∧
  ∀ (w1:World) (A':Option Addr) (c' i:Nat),Fr (fun b=>A.map (·.block) = some b) w w1 → OwnI w0 w1 A' c' (g k ++ [i]) → (A'.map (·.block) = A.map (·.block) ∨ ∀ b,A'.map (·.block) = some b → w.heap.size ≤ b) →
   ∃ w2,(Instr.mapUpdate 112 (.map (some r)) (encSt k) (.slice A' (g k ++ [i]).length c')).run Try.prog w1 = .ok () w2 ∧ Plc w0 w2 r (pushG g k i) ∧ Fr (oneB r) w1 w2:=by
 obtain ⟨fm,hM,h1,h2,h3⟩:=h.ex
 have key:∃ A c,(fm k).getD (.slice none 0 0) = .slice A (g k).length c ∧ OwnI w0 w A c (g k) ∧ (∀ v,fm k = some v → v = .slice A (g k).length c) ∧ (fm k = none → A = none):=by
  cases hf:fm k with
  | none =>
   have:=h1 k hf
   rw [this]
   exact ⟨none,0,rfl,World.ownsRow_nil _ _ _ _,by simp,fun _=>rfl⟩
  | some v =>
   obtain ⟨A,c,e,ho⟩:=h2 k v hf
   exact ⟨A,c,e,ho,fun v' hv'=>by injection hv' with hv';rw [← hv'];exact e,by simp⟩
 obtain ⟨A,c,hget,ho,hsome,hnone⟩:=key
 have hne:=mapF_notOwn hM ho
 have hMr:¬ (A.map (·.block) = some r):=fun e=>hne r e rfl
 refine ⟨A,c,?_,ho,?_,?_⟩
 ·rw [hM.look keyS Try.underlying112 (zeroInts w) k,hget]
 ·intro w' f
  rw [(hM.fr f hMr).look keyS Try.underlying112 (zeroInts w') k,hget]
 ·intro w1 A' c' i f ho' hb
  obtain ⟨w2,hrun,hM2,hF2,hsz⟩:=(hM.fr f hMr).put keyS Try.underlying112 k (.slice A' (g k ++ [i]).length c')
  refine ⟨w2,hrun,?_,hF2⟩
  have hM1:=hM.fr f hMr
  have hlt:=hM.lt
  have other:∀ k' v' b,k' ≠ k → fm k' = some v' → v'.ownBlock = some b → A.map (·.block) ≠ some b:=by
   intro k' v' b hk hv' hb' hA
   cases hf:fm k with
   | none=>rw [hnone hf] at hA;cases hA
   | some v =>
    have:=hsome v hf
    subst this
    exact h3 k k' _ v' b (Ne.symm hk) hf hv' (by rw [ownBlock_slice];exact hA) hb'
  have old:∀ k' v',k' ≠ k → fm k' = some v' → ∃ A2 c2,v' = .slice A2 (g k').length c2 ∧ OwnI w0 w2 A2 c2 (g k'):=by
   intro k' v' hk hv'
   obtain ⟨A2,c2,e,ho2⟩:=h2 k' v' hv'
   have ho2':=own_fr ho2 f (fun b hb'=>other k' v' b hk hv' (by rw [e];exact hb'))
   exact ⟨A2,c2,e,own_fr ho2' hF2 (fun b hb'=>mapF_notOwn hM1 ho2' b (by rw [← ownBlock_slice A2 (g k').length c2];exact hb'))⟩
  have fresh:∀ k' v' b,k' ≠ k → fm k' = some v' → v'.ownBlock = some b → A'.map (·.block) ≠ some b:=by
   intro k' v' b hk hv' hb' hA'
   rcases hb with hb | hb
   ·exact other k' v' b hk hv' hb' (hb.symm.trans hA')
   ·have:=hb b hA'
    obtain ⟨A2,c2,e,ho2⟩:=h2 k' v' hv'
    have:=(ho2.lt b (by rw [← e];exact hb')).2
    omega
  refine ⟨⟨putF fm k (.slice A' (g k ++ [i]).length c'),hM2,?_,?_,?_⟩,?_,h.rlo⟩
  ·intro k' hk'
   unfold putF at hk'
   split at hk'
   ·cases hk'
   ·rename_i hkk
    unfold pushG
    rw [if_neg hkk]
    exact h1 k' hk'
  ·intro k' v' hk'
   unfold putF at hk'
   unfold pushG
   split at hk'
   ·rename_i hkk
    subst hkk
    injection hk' with hk'
    rw [if_pos rfl]
    exact ⟨A',c',hk'.symm,own_fr ho' hF2 (fun b hb'=>mapF_notOwn hM1 ho' b (by rw [← ownBlock_slice A' (g k' ++ [i]).length c'];exact hb'))⟩
   ·rename_i hkk
    rw [if_neg hkk]
    exact old k' v' hkk hk'
  ·intro k1 k2 v1 v2 b hk hv1 hv2 hb1 hb2
   unfold putF at hv1 hv2
   split at hv1
   ·rename_i hk1
    injection hv1 with hv1
    subst hv1
    rw [ownBlock_slice] at hb1
    split at hv2
    ·rename_i hk2;exact hk (hk1.trans hk2.symm)
    ·rename_i hk2;exact fresh k2 v2 b hk2 hv2 hb2 hb1
   ·rename_i hk1
    split at hv2
    ·injection hv2 with hv2
     subst hv2
     rw [ownBlock_slice] at hb2
     exact fresh k1 v1 b hk1 hv1 hb1 hb2
    ·exact h3 k1 k2 v1 v2 b hk hv1 hv2 hb1 hb2
  ·refine (h.fr.step f (fun b hb'=>.inl ?_)).step1 hF2 h.rlo
   exact (ho.lt b (by rw [ownBlock_slice];exact hb')).1
end
end Go.Proofs.Ytahllkifmmjbdaa
