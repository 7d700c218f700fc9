/- Plain: of a draft's calls: the rows stay a tree; what is refused changes nothing; how many rows and stamps are taken. -/
import Derived.Test.YthehiobacjjakaaGreatDoorWkQKn
set_option linter.unusedVariables false
set_option linter.unusedSimpArgs false
namespace Go.Proofs.YthehiobacjjakaaGreatDoor
theorem cmp_tick (s:St) (n:Nat) (h:0 < n):cmpS s (tickD s n) < 0:=by
 unfold cmpS tickD
 simp only
 rw [if_pos (by omega)]
 decide
theorem tick_tick (s:St) (m n:Nat):tickD (tickD s m) n = tickD s (m + n):=by
 unfold tickD
 simp only [St.mk.injEq,and_true]
 omega
theorem tick_zero (s:St):tickD s 0 = s:=by
 unfold tickD
 simp
theorem room_right {d:Dft} {n:Nat} (h:roomD d n = true) (k:Nat) (hk:k < n):rightS (tickD d.next k) = true:=by
 unfold roomD at h
 simp only [Bool.and_eq_true] at h
 obtain ⟨⟨h1,h2⟩,_⟩:=h
 unfold rightS at h1 h2 ⊢
 unfold tickD
 simp only [Bool.and_eq_true,decide_eq_true_eq] at h1 h2 ⊢
 omega
theorem grow_ok:∀ (l:List (List UInt8)) (d:Dft) (a:RwP),TreeOk d.rows → (∀ r ∈ d.rows,cmpS r.Node d.next < 0) → (∀ k,k < l.length → rightS (tickD d.next k) = true ∧ tickD d.next k ≠ lastS) →
  (∀ s ∈ l,nameOk s = true) → d.rows.length + l.length ≤ 5000 → (a = zRwP ∨ a ∈ d.rows) →
  TreeOk (growD d a l).1.rows ∧ (∀ r ∈ (growD d a l).1.rows,cmpS r.Node (growD d a l).1.next < 0) ∧ (growD d a l).1.rows.length = d.rows.length + l.length ∧ (growD d a l).1.next = tickD d.next l.length ∧
   ((l = [] ∧ (growD d a l).2 = a) ∨ (growD d a l).2 ∈ (growD d a l).1.rows)
 | [],d,a,h1,h2,_,_,_,_=>⟨h1,h2,rfl,(tick_zero _).symm,.inl ⟨rfl,rfl⟩⟩
 | nm :: l,d,a,h1,h2,h3,h4,h5,h6=>by
  have hr:=h3 0 (by simp)
  rw [tick_zero] at hr
  have hnm:=h4 nm (by simp)
  have hn:findR d.rows d.next = none:=by
   rw [findR_none]
   intro r hr' e
   have:=h2 r hr'
   rw [e,cmpS_self] at this
   omega
  have hlen:(putR d.rows (⟨d.next,a.Node,d.next,nm,[]⟩:RwP)).length = d.rows.length + 1:=by
   rw [putR_len]
   show (if (findR d.rows d.next).isSome then _ else _) = _
   rw [hn]
   rfl
  have hrr:rightR (⟨d.next,a.Node,d.next,nm,[]⟩:RwP) = true:=(rightR_iff _).2 ⟨⟨hr.1,hr.1,by simp [cmpS_self],hnm,by simp,by simp,by simp [riseB]⟩,hr.2⟩
  have hup:∃ K,reach d.rows K a.Node = true:=by
   rcases h6 with rfl | h6
   ·exact ⟨0,show fixedS zSt = true from by decide⟩
   ·exact h1.up a h6
  obtain ⟨K,hK⟩:=hup
  simp only [List.length_cons] at h5
  have ht:=h1.put hrr (.inr ⟨by omega,fun x hx=>h2 x hx⟩) (reach_new (r:=(⟨d.next,a.Node,d.next,nm,[]⟩:RwP)) hn K _ hK)
  have hin:(⟨d.next,a.Node,d.next,nm,[]⟩:RwP) ∈ putR d.rows (⟨d.next,a.Node,d.next,nm,[]⟩:RwP):=by
   unfold putR
   rw [if_neg (by simp [hn])]
   simp
  obtain ⟨g1,g2,g3,g4,g5⟩:=grow_ok l ⟨putR d.rows ⟨d.next,a.Node,d.next,nm,[]⟩,tickD d.next 1⟩ ⟨d.next,a.Node,d.next,nm,[]⟩ ht (fun x hx=>by
   rcases mem_put hx with rfl | ⟨hx,_⟩
   ·exact cmp_tick _ 1 (by decide)
   ·exact cmpS_trans (h2 x hx) (cmp_tick _ 1 (by decide))) (fun k hk=>by
    show rightS (tickD (tickD d.next 1) k) = true ∧ tickD (tickD d.next 1) k ≠ lastS
    rw [tick_tick,Nat.add_comm]
    exact h3 (k + 1) (by simpa using hk)) (fun s hs=>h4 s (by simp [hs])) (by show _ + _ ≤ _;rw [hlen];omega) (.inr hin)
  refine ⟨g1,g2,?_,?_,?_⟩
  ·show (growD _ _ l).1.rows.length = _
   rw [g3]
   show (putR d.rows _).length + _ = _
   rw [hlen,List.length_cons]
   omega
  ·show (growD _ _ l).1.next = _
   rw [g4]
   show tickD (tickD d.next 1) _ = _
   rw [tick_tick,List.length_cons,Nat.add_comm]
  ·right
   rcases g5 with ⟨el,g5⟩ | g5
   ·show (growD _ _ l).2 ∈ (growD _ _ l).1.rows
    rw [g5]
    subst el
    exact hin
   ·exact g5
structure CallOk (d:Dft) (r:Dft × Int) (one:Bool):Prop where
 same:r.2 ≠ 0 → r.1 = d
 tree:TreeOk d.rows → TreeOk r.1.rows
 took:TreeOk d.rows → r.2 = 0 → ∃ k,r.1.rows.length = d.rows.length + k ∧ r.1.next = tickD d.next (k + 1) ∧ (one = true → k = 0)
theorem CallOk.no {d:Dft} {e:Int} (he:e ≠ 0) (one:Bool):CallOk d (d,e) one:=⟨fun _=>rfl,fun h=>h,fun _ h=>absurd h he⟩
theorem names_name {p:List UInt8} (h:namesOk p = true):∀ s ∈ splitD p,nameOk s = true:=by
 unfold namesOk at h
 simp only [Bool.and_eq_true,List.all_eq_true] at h
 exact h.1.1
theorem TreeOk.set {rs:List RwP} (h:TreeOk rs) {r x:RwP} (hx:x ∈ rs) (hn:r.Node = x.Node) (hr:rightR r = true) {K:Nat} (hK:reach (putR rs r) K r.Parent = true):TreeOk (putR rs r) ∧ (putR rs r).length = rs.length:=by
 have hf:findR rs r.Node = some x:=by rw [hn];exact h.find hx
 exact ⟨h.put hr (.inl (by rw [hf];rfl)) hK,by rw [putR_len,hf];rfl⟩
theorem TreeOk.parent {rs:List RwP} (h:TreeOk rs) {x:RwP} (hx:x ∈ rs):∃ k,reach rs k x.Parent = true:=by
 obtain ⟨k,hk⟩:=h.up x hx
 rcases reach_inv hk with hf | ⟨j,y,_,hf,hy⟩
 ·have h1:=rightR_node (h.ok x hx)
  exact absurd (fixedS_T hf) (rightS_T h1)
 ·rw [h.find hx] at hf
  injection hf with hf
  subst hf
  exact ⟨j,hy⟩
theorem remove_ok (d:Dft) (p:List UInt8):CallOk d (removeF d p) true:=by
 unfold removeF
 split
 ·exact CallOk.no (by decide) _
 split
 ·exact CallOk.no (by decide) _
 split
 ·exact CallOk.no (by decide) _
 rename_i h1 h2 h3
 have h3:roomD d 1 = true:=by simpa using h3
 have hm:(walkD d.rows zRwP (splitD p)).1 ∈ d.rows:=by
  rcases walkD_mem d.rows zRwP (splitD p) with h | h
  ·have:=List.length_pos_iff.2 (split_ne p)
   omega
  ·exact h
 generalize (walkD d.rows zRwP (splitD p)).1 = x at hm
 have hs:TreeOk d.rows → TreeOk (putR d.rows { x with Parent:=trS,At:=d.next }) ∧ (putR d.rows { x with Parent:=trS,At:=d.next }).length = d.rows.length:=fun h=>by
  have hr:=(rightR_iff x).1 (h.ok x hm)
  have h4:=room_right h3 0 (by decide)
  rw [tick_zero] at h4
  have h5:=room_lt h3 x hm
  exact h.set (x:=x) hm rfl ((rightR_iff _).2 ⟨⟨hr.1.1,h4,by have:=cmpS_flip x.Node d.next;show 0 ≤ cmpS d.next x.Node;omega,hr.1.2.2.2⟩,hr.2⟩) (reach_fixed (show fixedS trS = true from by decide) 0)
 exact ⟨fun h=>absurd rfl h,fun h=>(hs h).1,fun h _=>⟨0,(hs h).2,rfl,fun _=>rfl⟩⟩
theorem move_ok (d:Dft) (p q:List UInt8):CallOk d (moveF d p q) true:=by
 unfold moveF
 split
 ·exact CallOk.no (by decide) _
 split
 ·exact CallOk.no (by decide) _
 split
 ·exact CallOk.no (by decide) _
 split
 ·exact CallOk.no (by decide) _
 split
 ·exact CallOk.no (by decide) _
 split
 ·exact CallOk.no (by decide) _
 rename_i h1 h2 h3 h4 h5 h6
 have h6:roomD d 1 = true:=by simpa using h6
 have h1:namesOk p = true ∧ namesOk q = true ∧ ¬ 126 ∈ lastN q:=by simpa using h1
 have hm:(walkD d.rows zRwP (splitD p)).1 ∈ d.rows:=by
  rcases walkD_mem d.rows zRwP (splitD p) with h | h
  ·have:=List.length_pos_iff.2 (split_ne p)
   omega
  ·exact h
 have hpl:(walkD d.rows zRwP (aheadN q)).1 = zRwP ∨ (walkD d.rows zRwP (aheadN q)).1 ∈ d.rows:=by
  rcases walkD_mem d.rows zRwP (aheadN q) with h | h
  ·exact .inl h.1
  ·exact .inr h
 have hnm:nameOk (lastN q) = true:=names_name h1.2.1 _ (List.getLast_mem _)
 have hab:aboveR d.rows (walkD d.rows zRwP (splitD p)).1.Node (walkD d.rows zRwP (aheadN q)).1.Node = false:=by
  cases e:aboveR d.rows (walkD d.rows zRwP (splitD p)).1.Node (walkD d.rows zRwP (aheadN q)).1.Node with
  | false=>rfl
  | true=>exact absurd (.inr e) h4
 generalize (walkD d.rows zRwP (splitD p)).1 = x at hm hab
 generalize (walkD d.rows zRwP (aheadN q)).1 = y at hpl hab
 have hs:TreeOk d.rows → TreeOk (putR d.rows { x with Parent:=y.Node,Name:=lastN q,At:=d.next }) ∧ (putR d.rows { x with Parent:=y.Node,Name:=lastN q,At:=d.next }).length = d.rows.length:=fun h=>by
  have hr:=(rightR_iff x).1 (h.ok x hm)
  have h7:=room_right h6 0 (by decide)
  rw [tick_zero] at h7
  have h8:=room_lt h6 x hm
  have hy:reach d.rows d.rows.length y.Node = true ∧ (fixedS y.Node = true ∨ y.Node.T ≠ 0):=by
   rcases hpl with rfl | hy
   ·exact ⟨reach_fixed (show fixedS zSt = true from by decide) _,.inl (show fixedS zSt = true from by decide)⟩
   ·obtain ⟨k,hk⟩:=h.up y hy
    exact ⟨reach_len hk,.inr (rightS_T (rightR_node (h.ok y hy)))⟩
  have hps:∀ z ∈ d.rows,fixedS z.Parent = true ∨ z.Parent.T ≠ 0:=fun z hz=>by
   obtain ⟨k,hk⟩:=h.parent hz
   rcases reach_inv hk with hf | ⟨j,v,_,hf,_⟩
   ·exact .inl hf
   ·obtain ⟨h9,h10⟩:=findR_some hf
    rw [← h10]
    exact .inr (rightS_T (rightR_node (h.ok v h9)))
  have hro:=reach_off (r:={ x with Parent:=y.Node,Name:=lastN q,At:=d.next }) d.rows.length y.Node hy.1 hab hy.2 hps
  exact h.set (x:=x) hm rfl ((rightR_iff _).2 ⟨⟨hr.1.1,h7,by have:=cmpS_flip x.Node d.next;show 0 ≤ cmpS d.next x.Node;omega,hnm,hr.1.2.2.2.2⟩,hr.2⟩) hro
 exact ⟨fun h=>absurd rfl h,fun h=>(hs h).1,fun h _=>⟨0,(hs h).2,rfl,fun _=>rfl⟩⟩
theorem put_ok (d:Dft) (p:List UInt8) (data:ID):CallOk d (putF d p data) false:=by
 unfold putF
 split
 ·exact CallOk.no (by decide) _
 split
 ·exact CallOk.no (by decide) _
 split
 ·exact CallOk.no (by decide) _
 split
 ·exact CallOk.no (by decide) _
 split
 ·exact CallOk.no (by decide) _
 split
 ·exact CallOk.no (by decide) _
 split
 ·exact CallOk.no (by decide) _
 rename_i h1 h2 h3 h4 h5 h6 h7
 have h1:namesOk p = true:=by simpa using h1
 have h7:roomD d ((freshD d p).length + 1) = true:=by simpa using h7
 have hfr:∀ s ∈ freshD d p,nameOk s = true:=fun s hs=>names_name h1 s (List.drop_subset _ _ hs)
 have hem:freshD d p = [] → (walkD d.rows zRwP (splitD p)).1 ∈ d.rows:=fun he=>by
  rcases walkD_mem d.rows zRwP (splitD p) with h | h
  ·have h8:=List.length_pos_iff.2 (split_ne p)
   unfold freshD at he
   rw [h.2,List.drop_zero] at he
   exact absurd he (split_ne p)
  ·exact h
 have ha:(walkD d.rows zRwP (splitD p)).1 = zRwP ∨ (walkD d.rows zRwP (splitD p)).1 ∈ d.rows:=by
  rcases walkD_mem d.rows zRwP (splitD p) with h | h
  ·exact .inl h.1
  ·exact .inr h
 generalize (walkD d.rows zRwP (splitD p)).1 = a at hem ha
 generalize freshD d p = l at h6 h7 hfr hem
 have hs:TreeOk d.rows → TreeOk (putR (growD d a l).1.rows { (growD d a l).2 with Heads:=[⟨(growD d a l).1.next,data⟩] }) ∧ (putR (growD d a l).1.rows { (growD d a l).2 with Heads:=[⟨(growD d a l).1.next,data⟩] }).length = d.rows.length + l.length ∧ (growD d a l).1.next = tickD d.next l.length:=fun h=>by
  obtain ⟨g1,g2,g3,g4,g5⟩:=grow_ok l d a h (room_lt h7) (fun k hk=>⟨room_right h7 k (by omega),fun e=>by
   have h8:=room_right h7 (k + 1) (by omega)
   rw [← tick_tick,e] at h8
   exact absurd h8 (by decide)⟩) hfr (by omega) ha
  have hin:(growD d a l).2 ∈ (growD d a l).1.rows:=by
   rcases g5 with ⟨e,g5⟩ | g5
   ·rw [g5]
    subst e
    exact hem rfl
   ·exact g5
  have h9:=room_right h7 l.length (by omega)
  rw [← g4] at h9
  have h10:=g2 _ hin
  have hr:=(rightR_iff _).1 (g1.ok _ hin)
  obtain ⟨K,hK⟩:=g1.parent hin
  have hf:=g1.find hin
  generalize (growD d a l).2 = x at hin h10 hr hK hf
  generalize (growD d a l).1.next = s at g4 h9 h10
  have h11:=g1.set (r:={ x with Heads:=[⟨s,data⟩] }) (x:=x) hin rfl ((rightR_iff _).2 ⟨⟨hr.1.1,hr.1.2.1,hr.1.2.2.1,hr.1.2.2.2.1,by simp,fun hd hm=>by
   rw [List.mem_singleton] at hm
   subst hm
   exact ⟨h9,by have:=cmpS_flip x.Node s;show 0 < cmpS s x.Node;omega,h3⟩,by simp [riseB]⟩,hr.2⟩) (reach_same (r:={ x with Heads:=[⟨s,data⟩] }) hf rfl K _ hK)
  exact ⟨h11.1,by rw [h11.2,g3],g4⟩
 refine ⟨fun h=>absurd rfl h,fun h=>(hs h).1,fun h _=>⟨l.length,(hs h).2.1,?_,fun h=>by cases h⟩⟩
 show tickD (growD d a l).1.next 1 = _
 rw [(hs h).2.2,tick_tick]
end Go.Proofs.YthehiobacjjakaaGreatDoor
