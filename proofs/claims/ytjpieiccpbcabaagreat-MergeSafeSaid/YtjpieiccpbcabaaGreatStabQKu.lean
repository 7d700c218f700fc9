/- Plain: rotations of a row, and merging two sorted rows by a rotation at the right cut. Plain: the steps of a stable sort: cuts found by halving, merges, blocks. -/
import Derived.Sort.LotA
import Derived.Sort.LotD2
import Derived.Sort.Lot0
set_option linter.unusedVariables false
set_option linter.unusedSimpArgs false
namespace Go.Proofs.YtjpieiccpbcabaaGreat
open Go.Sort
variable {α:Type} [Inhabited α]
structure RotIn (a m b:Nat) (d d':Array α):Prop where
 size:d'.size = d.size
 out:∀ i,i < a ∨ b ≤ i → d'[i]! = d[i]!
 one:∀ i,i < b - m → d'[a + i]! = d[m + i]!
 two:∀ i,i < m - a → d'[a + (b - m) + i]! = d[a + i]!
theorem RotIn.left {a b:Nat} (hab:a ≤ b) (d:Array α):RotIn a a b d d:=⟨rfl,fun _ _=>rfl,fun _ _=>rfl,fun i hi=>by omega⟩
theorem RotIn.right {a b:Nat} (hab:a ≤ b) (d:Array α):RotIn a b b d d:=⟨rfl,fun _ _=>rfl,fun i hi=>by omega,fun i hi=>by rw [Nat.sub_self,Nat.add_zero]⟩
theorem RotIn.one' {a m b:Nat} {d d':Array α} (h:RotIn a m b d d') (ham:a ≤ m) (hmb:m ≤ b) {i:Nat} (h1:a ≤ i) (h2:i < a + (b - m)):d'[i]! = d[i + m - a]!:=by
 have:=h.one (i - a) (by omega)
 rwa [show a + (i - a) = i by omega,show m + (i - a) = i + m - a by omega] at this
theorem RotIn.two' {a m b:Nat} {d d':Array α} (h:RotIn a m b d d') (ham:a ≤ m) (hmb:m ≤ b) {i:Nat} (h1:a + (b - m) ≤ i) (h2:i < b):d'[i]! = d[i - (b - m)]!:=by
 have:=h.two (i - (a + (b - m))) (by omega)
 rwa [show a + (b - m) + (i - (a + (b - m))) = i by omega,show a + (i - (a + (b - m))) = i - (b - m) by omega] at this
theorem RotIn.exists {a m b:Nat} (ham:a ≤ m) (hmb:m ≤ b) (d:Array α) (hb:b ≤ d.size):∃ d',RotIn a m b d d':=by
 refine ⟨Array.ofFn (n:=d.size) fun i=>if i.1 < a then d[i.1]! else if i.1 < a + (b - m) then d[i.1 + m - a]! else if i.1 < b then d[i.1 - (b - m)]! else d[i.1]!,by simp,?_,?_,?_⟩
 ·intro i hi
  by_cases hd:i < d.size
  ·rw [getElem!_pos _ i (by simpa using hd)]
   simp only [Array.getElem_ofFn]
   rcases hi with hi | hi
   ·rw [if_pos hi]
   ·rw [if_neg (by omega),if_neg (by omega),if_neg (by omega)]
  ·rw [getElem!_neg _ i (by simpa using hd),getElem!_neg d i hd]
 ·intro i hi
  rw [getElem!_pos _ (a + i) (by simp;omega)]
  simp only [Array.getElem_ofFn]
  rw [if_neg (by omega),if_pos (by omega),show a + i + m - a = m + i by omega]
 ·intro i hi
  rw [getElem!_pos _ (a + (b - m) + i) (by simp;omega)]
  simp only [Array.getElem_ofFn]
  rw [if_neg (by omega),if_neg (by omega),if_pos (by omega),show a + (b - m) + i - (b - m) = a + i by omega]
structure SwIn (a b n:Nat) (d d':Array α):Prop where
 size:d'.size = d.size
 one:∀ i,i < n → d'[a + i]! = d[b + i]!
 two:∀ i,i < n → d'[b + i]! = d[a + i]!
 out:∀ i,(i < a ∨ a + n ≤ i) → (i < b ∨ b + n ≤ i) → d'[i]! = d[i]!
theorem SwIn.zero (a b:Nat) (d:Array α):SwIn a b 0 d d:=⟨rfl,fun i hi=>by omega,fun i hi=>by omega,fun _ _ _=>rfl⟩
theorem SwIn.step {a b n:Nat} {d d':Array α} (h:SwIn a b n d d') (hab:a + n < b) (hb:b + n < d.size):SwIn a b (n + 1) d (swp d' (a + n) (b + n)):=by
 have hs:=h.size
 refine ⟨by rw [swp_size];exact hs,fun i hi=>?_,fun i hi=>?_,fun i h1 h2=>?_⟩
 ·rw [swp_get d' (by omega) (by omega)]
  by_cases e:i = n
  ·subst e
   rw [if_neg (by omega),if_pos rfl]
   exact h.out _ (by omega) (by omega)
  ·rw [if_neg (by omega),if_neg (by omega)]
   exact h.one i (by omega)
 ·rw [swp_get d' (by omega) (by omega)]
  by_cases e:i = n
  ·subst e
   rw [if_pos rfl]
   exact h.out _ (by omega) (by omega)
  ·rw [if_neg (by omega),if_neg (by omega)]
   exact h.two i (by omega)
 ·rw [swp_get d' (by omega) (by omega),if_neg (by omega),if_neg (by omega)]
  exact h.out i (by omega) (by omega)
theorem RotIn.big {m i j:Nat} {d d' T:Array α} (h:RotIn (m - i) m (m + j) d T) (hw:SwIn (m - i) m j d d') (hij:j < i) (him:i ≤ m):RotIn (m - i + j) m (m + j) d' T:=by
 refine ⟨by rw [h.size,hw.size],fun k hk=>?_,fun k hk=>?_,fun k hk=>?_⟩
 ·by_cases hk':m - i ≤ k ∧ k < m - i + j
  ·have:=h.one (k - (m - i)) (by omega)
   rw [show m - i + (k - (m - i)) = k by omega] at this
   rw [this]
   have:=hw.one (k - (m - i)) (by omega)
   rw [show m - i + (k - (m - i)) = k by omega] at this
   rw [this]
  ·rw [h.out k (by omega),hw.out k (by omega) (by omega)]
 ·rw [hw.two k (by omega)]
  by_cases hk':k < i - j
  ·have:=h.two k (by omega)
   rw [show m - i + (m + j - m) + k = m - i + j + k by omega] at this
   exact this
  ·have:=h.two k (by omega)
   rw [show m - i + (m + j - m) + k = m - i + j + k by omega] at this
   exact this
 ·have:=h.two (j + k) (by omega)
  rw [show m - i + (m + j - m) + (j + k) = m - i + j + (m + j - m) + k by omega] at this
  rw [this,← Nat.add_assoc,hw.out _ (by omega) (by omega)]
theorem RotIn.small {m i j:Nat} {d d' T:Array α} (h:RotIn (m - i) m (m + j) d T) (hw:SwIn (m - i) (m + j - i) i d d') (hij:i < j) (him:i ≤ m):RotIn (m - i) m (m + j - i) d' T:=by
 refine ⟨by rw [h.size,hw.size],fun k hk=>?_,fun k hk=>?_,fun k hk=>?_⟩
 ·by_cases hk':m + j - i ≤ k ∧ k < m + j
  ·have:=h.two (k - (m + j - i)) (by omega)
   rw [show m - i + (m + j - m) + (k - (m + j - i)) = k by omega] at this
   rw [this]
   have:=hw.two (k - (m + j - i)) (by omega)
   rw [show m + j - i + (k - (m + j - i)) = k by omega] at this
   rw [this]
  ·rw [h.out k (by omega),hw.out k (by omega) (by omega)]
 ·have:=h.one k (by omega)
  rw [this,hw.out (m + k) (by omega) (by omega)]
 ·have:=h.one (m + j - i - m + k) (by omega)
  rw [show m - i + (m + j - i - m + k) = m - i + (m + j - i - m) + k by omega] at this
  rw [this,hw.one k (by omega)]
  congr 1
  omega
theorem RotIn.last {m i:Nat} {d d' T:Array α} (h:RotIn (m - i) m (m + i) d T) (hw:SwIn (m - i) m i d d') (him:i ≤ m):∀ k:Nat,d'[k]! = T[k]!:=by
 intro k
 by_cases h1:m - i ≤ k ∧ k < m
 ·have a1:=h.one (k - (m - i)) (by omega)
  have a2:=hw.one (k - (m - i)) (by omega)
  rw [show m - i + (k - (m - i)) = k by omega] at a1 a2
  rw [a1,a2]
 ·by_cases h2:m ≤ k ∧ k < m + i
  ·have a1:=h.two (k - m) (by omega)
   have a2:=hw.two (k - m) (by omega)
   rw [show m - i + (m + i - m) + (k - m) = k by omega] at a1
   rw [show m + (k - m) = k by omega] at a2
   rw [a1,a2]
  ·rw [h.out k (by omega),hw.out k (by omega) (by omega)]
theorem ext_all {d d':Array α} (hs:d.size = d'.size) (h:∀ k:Nat,d[k]! = d'[k]!):d = d':=by
 refine Array.ext hs fun i h1 h2=>?_
 have:=h i
 rwa [getElem!_pos d i h1,getElem!_pos d' i h2] at this
theorem RotIn.up {a k:Nat} {d d':Array α} (h:RotIn a (a + 1) (k + 1) d d') (hak:a ≤ k) (hk:k + 1 < d.size):RotIn a (a + 1) (k + 2) d (swp d' k (k + 1)):=by
 have hs:=h.size
 refine ⟨by rw [swp_size];exact hs,fun i hi=>?_,fun i hi=>?_,fun i hi=>?_⟩
 ·rw [swp_get d' (by omega) (by omega),if_neg (by omega),if_neg (by omega)]
  exact h.out i (by omega)
 ·rw [swp_get d' (by omega) (by omega),if_neg (by omega)]
  by_cases e:a + i = k
  ·rw [if_pos e,h.out (k + 1) (by omega)]
   congr 1
   omega
  ·rw [if_neg e]
   exact h.one i (by omega)
 ·have e0:i = 0:=by omega
  subst e0
  rw [swp_get d' (by omega) (by omega),if_pos (by omega)]
  have:=h.two 0 (by omega)
  rw [← this]
  congr 1
  omega
theorem RotIn.down {m k:Nat} {d d':Array α} (h:RotIn k m (m + 1) d d') (hk:0 < k) (hkm:k ≤ m) (hm:m < d.size):RotIn (k - 1) m (m + 1) d (swp d' k (k - 1)):=by
 have hs:=h.size
 refine ⟨by rw [swp_size];exact hs,fun i hi=>?_,fun i hi=>?_,fun i hi=>?_⟩
 ·rw [swp_get d' (by omega) (by omega),if_neg (by omega),if_neg (by omega)]
  exact h.out i (by omega)
 ·have e0:i = 0:=by omega
  subst e0
  rw [swp_get d' (by omega) (by omega),if_pos (by omega)]
  have:=h.one 0 (by omega)
  rw [← this]
  rfl
 ·rw [swp_get d' (by omega) (by omega),if_neg (by omega)]
  by_cases e:k - 1 + (m + 1 - m) + i = k
  ·rw [if_pos e,h.out (k - 1) (by omega)]
   congr 1
   omega
  ·rw [if_neg e]
   have:=h.two (i - 1) (by omega)
   rw [show k + (m + 1 - m) + (i - 1) = k - 1 + (m + 1 - m) + i by omega,show k + (i - 1) = k - 1 + i by omega] at this
   exact this
theorem cut_parts {lt:α → α → Bool} (hS:SWO lt) {a s m e b:Nat} {d d':Array α} (h:RotIn s m e d d') (h1:a ≤ s) (h2:s ≤ m) (h3:m ≤ e) (h4:e ≤ b)
  (sl:SortedIn lt a m d) (sr:SortedIn lt m b d) (hlo:s < m → m < e → lt d[e - 1]! d[s]! = true) (hhi:a < s → e < b → lt d[e]! d[s - 1]! = false) :
  SortedIn lt a s d' ∧ SortedIn lt s (s + (e - m)) d' ∧ SortedIn lt (s + (e - m)) e d' ∧ SortedIn lt e b d' ∧ ∀ x y,a ≤ x → x < s + (e - m) → s + (e - m) ≤ y → y < b → lt d'[y]! d'[x]! = false:=by
 have le1:∀ i j,a ≤ i → i ≤ j → j < m → lt d[j]! d[i]! = false:=fun i j hi hij hj=>by
  rcases Nat.lt_or_eq_of_le hij with h | rfl
  ·exact sl i j hi h hj
  ·exact hS.irrefl _
 have le2:∀ i j,m ≤ i → i ≤ j → j < b → lt d[j]! d[i]! = false:=fun i j hi hij hj=>by
  rcases Nat.lt_or_eq_of_le hij with h | rfl
  ·exact sr i j hi h hj
  ·exact hS.irrefl _
 refine ⟨fun i j hi hij hj=>?_,fun i j hi hij hj=>?_,fun i j hi hij hj=>?_,fun i j hi hij hj=>?_,fun x y hx hxm hy hyb=>?_⟩
 ·rw [h.out i (by omega),h.out j (by omega)];exact sl i j (by omega) hij (by omega)
 ·rw [h.one' h2 h3 hi (by omega),h.one' h2 h3 (by omega) hj];exact sr _ _ (by omega) (by omega) (by omega)
 ·rw [h.two' h2 h3 hi (by omega),h.two' h2 h3 (by omega) hj];exact sl _ _ (by omega) (by omega) (by omega)
 ·rw [h.out i (by omega),h.out j (by omega)];exact sr i j (by omega) hij (by omega)
 ·by_cases hx':x < s
  ·rw [h.out x (by omega)]
   by_cases hy':y < e
   ·rw [h.two' h2 h3 hy hy']
    exact le1 _ _ hx (by omega) (by omega)
   ·rw [h.out y (by omega)]
    have k1:=le2 e y (by omega) (by omega) hyb
    have k2:=hhi (by omega) (by omega)
    have k3:=le1 x (s - 1) hx (by omega) (by omega)
    exact hS.ntrans _ _ _ k1 (hS.ntrans _ _ _ k2 k3)
  ·rw [h.one' h2 h3 (by omega) hxm]
   by_cases hy':y < e
   ·rw [h.two' h2 h3 hy hy']
    have k2:=hlo (by omega) (by omega)
    have k1:=le2 (x + m - s) (e - 1) (by omega) (by omega) (by omega)
    have k3:=le1 s (y - (e - m)) (by omega) (by omega) (by omega)
    -- x' ≤ e-1 < s ≤ y'
    cases hc:lt d[y - (e - m)]! d[x + m - s]! with
    | false=>rfl
    | true =>
     have a1:=hS.ntrans _ _ _ k3 (show lt d[s]! d[e - 1]! = false from by
      cases hq:lt d[s]! d[e - 1]! with
      | false=>rfl
      | true=>have:=hS.trans _ _ _ k2 hq;rw [hS.irrefl] at this;cases this)
     have a2:=hS.ntrans _ _ _ a1 k1
     rw [a2] at hc;cases hc
   ·rw [h.out y (by omega)]
    exact le2 _ _ (by omega) (by omega) hyb
theorem sorted_join {lt:α → α → Bool} {a mid b:Nat} {d:Array α} (h1:SortedIn lt a mid d) (h2:SortedIn lt mid b d) (hx:∀ x y,a ≤ x → x < mid → mid ≤ y → y < b → lt d[y]! d[x]! = false):SortedIn lt a b d:=by
 intro i j hi hij hj
 by_cases h:j < mid
 ·exact h1 i j hi hij h
 ·by_cases h':i < mid
  ·exact hx i j hi h' (by omega) hj
  ·exact h2 i j (by omega) hij hj
theorem perm_cross {lt:α → α → Bool} {a mid b:Nat} {d d':Array α} (hb:b ≤ d.size) (ham:a ≤ mid) (hmb:mid ≤ b) (h1:PermIn a mid d d') (hx:∀ x y,a ≤ x → x < mid → mid ≤ y → y < b → lt d[y]! d[x]! = false):∀ x y,a ≤ x → x < mid → mid ≤ y → y < b → lt d'[y]! d'[x]! = false:=by
 intro x y h2 h3 h4 h5
 rw [h1.2.1 y (by omega)]
 exact permIn_all d d' a mid (fun v=>lt d[y]! v = false) (by omega) h1 (fun i hi hi'=>hx i y hi hi' h4 h5) x h2 h3
theorem perm_cross' {lt:α → α → Bool} {a mid b:Nat} {d d':Array α} (hb:b ≤ d.size) (ham:a ≤ mid) (hmb:mid ≤ b) (h1:PermIn mid b d d') (hx:∀ x y,a ≤ x → x < mid → mid ≤ y → y < b → lt d[y]! d[x]! = false):∀ x y,a ≤ x → x < mid → mid ≤ y → y < b → lt d'[y]! d'[x]! = false:=by
 intro x y h2 h3 h4 h5
 rw [h1.2.1 x (by omega)]
 exact permIn_all d d' mid b (fun v=>lt v d[x]! = false) hb h1 (fun i hi hi'=>hx x i h2 h3 hi hi') y h4 h5
end Go.Proofs.YtjpieiccpbcabaaGreat
namespace Go.Proofs.YtjpieiccpbcabaaGreat
open Go.Sort
set_option linter.unusedSectionVars false
section
variable {α:Type} [Inhabited α] {lt:α → α → Bool}
theorem RotIn.perm {a m b:Nat} {d d':Array α} (h:RotIn a m b d d') (h1:a ≤ m) (h2:m ≤ b) (hb:b ≤ d.size):PermIn a b d d':=by
 refine ⟨h.size,h.out,?_⟩
 rw [extract_toList d' a b (by rw [h.size];exact hb),extract_toList d a b hb]
 have e1:List.range' a (b - a) = List.range' a (b - m) ++ List.range' (a + (b - m)) (m - a):=by
  rw [List.range'_append_1];congr 1;omega
 have e2:List.range' a (b - a) = List.range' a (m - a) ++ List.range' m (b - m):=by
  have:m = a + (m - a):=by omega
  conv=>rhs;rw [show List.range' m (b - m) = List.range' (a + (m - a)) (b - m) by rw [← this]]
  rw [List.range'_append_1];congr 1;omega
 have m1:(List.range' a (b - m)).map (fun i=>d'[i]!) = (List.range' m (b - m)).map (fun i=>d[i]!):=by
  refine List.ext_getElem (by simp) fun i hi1 hi2=>?_
  simp only [List.getElem_map,List.getElem_range',Nat.one_mul]
  exact h.one i (by simpa using hi1)
 have m2:(List.range' (a + (b - m)) (m - a)).map (fun i=>d'[i]!) = (List.range' a (m - a)).map (fun i=>d[i]!):=by
  refine List.ext_getElem (by simp) fun i hi1 hi2=>?_
  simp only [List.getElem_map,List.getElem_range',Nat.one_mul]
  exact h.two i (by simpa using hi1)
 rw [e1,List.map_append,m1,m2,← e1,e2,List.map_append]
 exact List.perm_append_comm
structure CutL (lt:α → α → Bool) (d:Array α) (a m b i j:Nat):Prop where
 h1:m ≤ i
 h2:i ≤ j
 h3:j ≤ b
 lo:∀ x,m ≤ x → x < i → lt d[x]! d[a]! = true
 hi:∀ x,j ≤ x → x < b → lt d[x]! d[a]! = false
theorem CutL.start {d:Array α} {a m b:Nat} (h:m ≤ b):CutL lt d a m b m b:=⟨Nat.le_refl _,h,Nat.le_refl _,fun x h1 h2=>by omega,fun x h1 h2=>by omega⟩
theorem le_in {d:Array α} {m b x h:Nat} (hS:SWO lt) (hs:SortedIn lt m b d) (h1:m ≤ x) (h2:x ≤ h) (h3:h < b):lt d[h]! d[x]! = false:=by
 rcases Nat.lt_or_eq_of_le h2 with h | rfl
 ·exact hs x _ h1 h h3
 ·exact hS.irrefl _
theorem CutL.up {d:Array α} {a m b i j h:Nat} (hS:SWO lt) (hs:SortedIn lt m b d) (k:CutL lt d a m b i j) (h1:i ≤ h) (h2:h < j) (hl:lt d[h]! d[a]! = true):CutL lt d a m b (h + 1) j:=by
 refine ⟨by have:=k.h1;omega,by omega,k.h3,fun x hx1 hx2=>?_,k.hi⟩
 cases e:lt d[x]! d[a]! with
 | true=>rfl
 | false =>
  have k3:=k.h3
  have:=hS.ntrans _ _ _ (le_in hS hs hx1 (show x ≤ h by omega) (by omega)) e
  rw [hl] at this;cases this
theorem CutL.down {d:Array α} {a m b i j h:Nat} (hS:SWO lt) (hs:SortedIn lt m b d) (k:CutL lt d a m b i j) (h1:i ≤ h) (h2:h < j) (hl:lt d[h]! d[a]! = false):CutL lt d a m b i h:=by
 have k3:=k.h3
 have k1:=k.h1
 exact ⟨k.h1,h1,by omega,k.lo,fun x hx1 hx2=>hS.ntrans _ _ _ (le_in hS hs (by omega) hx1 hx2) hl⟩
theorem CutL.done {d d':Array α} {a b i:Nat} (hS:SWO lt) (hs:SortedIn lt (a + 1) b d) (hb:b ≤ d.size) (k:CutL lt d a (a + 1) b i i) (h:RotIn a (a + 1) i d d'):PermIn a b d d' ∧ SortedIn lt a b d':=by
 have k1:=k.h1
 have k3:=k.h3
 refine ⟨permIn_mono d d' a i a b (Nat.le_refl _) k3 hb (h.perm (by omega) (by omega) (by omega)),?_⟩
 have s1:SortedIn lt a (a + 1) d:=fun x y h1 h2 h3=>by omega
 obtain ⟨q1,q2,q3,q4,q5⟩:=cut_parts hS h (Nat.le_refl a) (by omega) k1 k3 s1 hs (fun _ h2=>k.lo (i - 1) (by omega) (by omega)) (fun h1=>by omega)
 refine sorted_join (mid:=a + (i - (a + 1))) q2 (sorted_join (mid:=i) q3 q4 fun x y h1 h2 h3 h4=>?_) q5
 have ex:x = a + (i - (a + 1)):=by omega
 subst ex
 have e1:=h.two 0 (by omega)
 rw [Nat.add_zero,Nat.add_zero] at e1
 rw [e1,h.out y (by omega)]
 exact k.hi y h3 h4
structure CutR (lt:α → α → Bool) (d:Array α) (a m i j:Nat):Prop where
 h1:a ≤ i
 h2:i ≤ j
 h3:j ≤ m
 lo:∀ x,a ≤ x → x < i → lt d[m]! d[x]! = false
 hi:∀ x,j ≤ x → x < m → lt d[m]! d[x]! = true
theorem CutR.start {d:Array α} {a m:Nat} (h:a ≤ m):CutR lt d a m a m:=⟨Nat.le_refl _,h,Nat.le_refl _,fun x h1 h2=>by omega,fun x h1 h2=>by omega⟩
theorem CutR.up {d:Array α} {a m i j h:Nat} (hS:SWO lt) (hs:SortedIn lt a m d) (k:CutR lt d a m i j) (h1:i ≤ h) (h2:h < j) (hl:lt d[m]! d[h]! = false):CutR lt d a m (h + 1) j:=by
 have k1:=k.h1
 have k3:=k.h3
 exact ⟨by omega,by omega,k.h3,fun x hx1 hx2=>hS.ntrans _ _ _ hl (le_in hS hs hx1 (show x ≤ h by omega) (by omega)),k.hi⟩
theorem CutR.down {d:Array α} {a m i j h:Nat} (hS:SWO lt) (hs:SortedIn lt a m d) (k:CutR lt d a m i j) (h1:i ≤ h) (h2:h < j) (hl:lt d[m]! d[h]! = true):CutR lt d a m i h:=by
 have k1:=k.h1
 have k3:=k.h3
 refine ⟨k.h1,h1,by omega,k.lo,fun x hx1 hx2=>?_⟩
 cases e:lt d[m]! d[x]! with
 | true=>rfl
 | false =>
  have:=hS.ntrans _ _ _ e (le_in hS hs (show a ≤ h by omega) hx1 (by omega))
  rw [hl] at this;cases this
theorem CutR.done {d d':Array α} {a m i:Nat} (hS:SWO lt) (hs:SortedIn lt a m d) (hb:m + 1 ≤ d.size) (k:CutR lt d a m i i) (h:RotIn i m (m + 1) d d'):PermIn a (m + 1) d d' ∧ SortedIn lt a (m + 1) d':=by
 have k1:=k.h1
 have k3:=k.h3
 refine ⟨permIn_mono d d' i (m + 1) a (m + 1) k1 (Nat.le_refl _) hb (h.perm k3 (by omega) hb),?_⟩
 have s1:SortedIn lt m (m + 1) d:=fun x y h1 h2 h3=>by omega
 obtain ⟨q1,q2,q3,q4,q5⟩:=cut_parts hS h k1 k3 (by omega) (Nat.le_refl (m + 1)) hs s1 (fun h1 h2=>k.hi i (Nat.le_refl _) h1) (fun h1 h2=>by omega)
 refine sorted_join (mid:=i + (m + 1 - m)) (sorted_join (mid:=i) q1 q2 fun x y h1 h2 h3 h4=>?_) q3 q5
 have ey:y = i:=by omega
 subst ey
 have e1:=h.one 0 (by omega)
 rw [Nat.add_zero,Nat.add_zero] at e1
 rw [e1,h.out x (by omega)]
 exact k.lo x h1 h2
structure CutM (lt:α → α → Bool) (d:Array α) (n s0 r0 s r:Nat):Prop where
 h1:s0 ≤ s
 h2:s ≤ r
 h3:r ≤ r0
 lo:s0 < s → lt d[n - s]! d[s - 1]! = false
 hi:r < r0 → lt d[n - 1 - r]! d[r]! = true
theorem CutM.start {d:Array α} {n s0 r0:Nat} (h:s0 ≤ r0):CutM lt d n s0 r0 s0 r0:=⟨Nat.le_refl _,h,Nat.le_refl _,fun h=>by omega,fun h=>by omega⟩
theorem CutM.up {d:Array α} {n s0 r0 s r c:Nat} (k:CutM lt d n s0 r0 s r) (h1:s ≤ c) (h2:c < r) (hl:lt d[n - 1 - c]! d[c]! = false):CutM lt d n s0 r0 (c + 1) r :=
 ⟨by have:=k.h1;omega,by omega,k.h3,fun _=>by rw [show n - (c + 1) = n - 1 - c by omega,Nat.add_sub_cancel];exact hl,k.hi⟩
theorem CutM.down {d:Array α} {n s0 r0 s r c:Nat} (k:CutM lt d n s0 r0 s r) (h1:s ≤ c) (h2:c < r) (hl:lt d[n - 1 - c]! d[c]! = true):CutM lt d n s0 r0 s c :=
 ⟨k.h1,h1,by have:=k.h3;omega,k.lo,fun _=>hl⟩
def s0M (a m b mid:Nat):Nat:=if mid < m then mid + m - b else a
def r0M (m mid:Nat):Nat:=if mid < m then mid else m
theorem m0M {a m b:Nat} (h1:a < m) (h2:m < b):a ≤ s0M a m b ((a + b) / 2) ∧ s0M a m b ((a + b) / 2) ≤ r0M m ((a + b) / 2) ∧ r0M m ((a + b) / 2) ≤ (a + b) / 2 ∧ r0M m ((a + b) / 2) ≤ m ∧
  (∀ c,s0M a m b ((a + b) / 2) ≤ c → c < r0M m ((a + b) / 2) → a ≤ c ∧ c < m ∧ m ≤ (a + b) / 2 + m - 1 - c ∧ (a + b) / 2 + m - 1 - c < b) ∧ a < (a + b) / 2 ∧ (a + b) / 2 < b:=by
 unfold s0M r0M
 split <;> exact ⟨by omega,by omega,by omega,by omega,fun c h3 h4=>by omega,by omega,by omega⟩
structure Halves (lt:α → α → Bool) (a s mid e b:Nat) (d:Array α):Prop where
 p1:SortedIn lt a s d
 p2:SortedIn lt s mid d
 p3:SortedIn lt mid e d
 p4:SortedIn lt e b d
 x:∀ x y,a ≤ x → x < mid → mid ≤ y → y < b → lt d[y]! d[x]! = false
theorem CutM.bounds {d:Array α} {a m b s:Nat} (h1:a < m) (h2:m < b) (k:CutM lt d ((a + b) / 2 + m) (s0M a m b ((a + b) / 2)) (r0M m ((a + b) / 2)) s s) :
  a ≤ s ∧ s ≤ m ∧ s ≤ (a + b) / 2 ∧ m ≤ (a + b) / 2 + m - s ∧ (a + b) / 2 + m - s ≤ b ∧ (a + b) / 2 ≤ (a + b) / 2 + m - s:=by
 have k1:=k.h1
 have k3:=k.h3
 unfold s0M at k1
 unfold r0M at k3
 split at k1 <;> split at k3 <;> omega
theorem CutM.halves {d d':Array α} {a m b s:Nat} (hS:SWO lt) (h1:a < m) (h2:m < b) (sl:SortedIn lt a m d) (sr:SortedIn lt m b d)
  (k:CutM lt d ((a + b) / 2 + m) (s0M a m b ((a + b) / 2)) (r0M m ((a + b) / 2)) s s) (h:RotIn s m ((a + b) / 2 + m - s) d d'):Halves lt a s ((a + b) / 2) ((a + b) / 2 + m - s) b d':=by
 obtain ⟨b1,b2,b3,b4,b5,b6⟩:=k.bounds h1 h2
 have hlo:s < m → m < (a + b) / 2 + m - s → lt d[(a + b) / 2 + m - s - 1]! d[s]! = true:=fun q1 q2=>by
  have:=k.hi (by
   unfold r0M
   split <;> omega)
  rwa [show (a + b) / 2 + m - 1 - s = (a + b) / 2 + m - s - 1 by omega] at this
 have hhi:a < s → (a + b) / 2 + m - s < b → lt d[(a + b) / 2 + m - s]! d[s - 1]! = false:=fun q1 q2=>k.lo (by
  unfold s0M
  split <;> omega)
 have e:s + ((a + b) / 2 + m - s - m) = (a + b) / 2:=by omega
 obtain ⟨q1,q2,q3,q4,q5⟩:=cut_parts hS h b1 b2 b4 b5 sl sr hlo hhi
 rw [e] at q2 q3 q5
 exact ⟨q1,q2,q3,q4,q5⟩
theorem sorted_empty {d:Array α} {a s b:Nat} (h:¬ (a < s ∧ s < b)) (h1:a ≤ s) (h2:s ≤ b) (p1:SortedIn lt a s d) (p2:SortedIn lt s b d):SortedIn lt a b d:=by
 by_cases e:a = s
 ·subst e;exact p2
 ·obtain rfl:s = b:=by omega
  exact p1
theorem perm_keepS {a b x y:Nat} {d d':Array α} (h:PermIn a b d d') (hd:b ≤ x ∨ y ≤ a) (hs:SortedIn lt x y d):SortedIn lt x y d':=fun i j h1 h2 h3=>by
 rw [h.2.1 i (by omega),h.2.1 j (by omega)];exact hs i j h1 h2 h3
theorem merge_done {d d1 d2 d3:Array α} {a m b s mid e:Nat} (hb:b ≤ d.size) (h1:a ≤ mid) (h2:mid ≤ b) (p1:PermIn a b d d1) (hx:∀ x y,a ≤ x → x < mid → mid ≤ y → y < b → lt d1[y]! d1[x]! = false)
  (p2:PermIn a mid d1 d2) (s2:SortedIn lt a mid d2) (p3:PermIn mid b d2 d3) (s3:SortedIn lt mid b d3):PermIn a b d d3 ∧ SortedIn lt a b d3:=by
 have z1:d1.size = d.size:=p1.1
 have z2:d2.size = d1.size:=p2.1
 have x2:=perm_cross (lt:=lt) (by omega) h1 h2 p2 hx
 have x3:=perm_cross' (lt:=lt) (by omega) h1 h2 p3 x2
 refine ⟨permIn_trans d d1 d3 a b p1 (permIn_trans d1 d2 d3 a b (permIn_mono d1 d2 a mid a b (Nat.le_refl _) h2 (by omega) p2) (permIn_mono d2 d3 mid b a b h1 (Nat.le_refl _) (by omega) p3)),?_⟩
 exact sorted_join (mid:=mid) (perm_keepS p3 (.inr (Nat.le_refl _)) s2) s3 x3
def Blocks (lt:α → α → Bool) (k n:Nat) (d:Array α):Prop:=∀ i,SortedIn lt (i * k) (min ((i + 1) * k) n) d
def BlocksTo (lt:α → α → Bool) (k a:Nat) (d:Array α):Prop:=∀ i,(i + 1) * k ≤ a → SortedIn lt (i * k) ((i + 1) * k) d
theorem BlocksTo.zero {k:Nat} {d:Array α} (hk:0 < k):BlocksTo lt k 0 d:=fun i hi=>by
 have:=Nat.mul_pos (show 0 < i + 1 by omega) hk
 omega
theorem mul_lt' {i q k:Nat} (h:(i + 1) * k ≤ q * k) (hk:0 < k):i < q:=by
 have:=Nat.le_of_mul_le_mul_right h hk
 omega
theorem BlocksTo.step {k q:Nat} {d d':Array α} (hk:0 < k) (h:BlocksTo lt k (q * k) d) (hp:PermIn (q * k) ((q + 1) * k) d d') (hs:SortedIn lt (q * k) ((q + 1) * k) d'):BlocksTo lt k ((q + 1) * k) d':=fun i hi=>by
 have hiq:i < q + 1:=mul_lt' hi hk
 by_cases e:i = q
 ·subst e;exact hs
 ·have h1:(i + 1) * k ≤ q * k:=Nat.mul_le_mul_right k (by omega)
  exact perm_keepS hp (.inr h1) (h i h1)
theorem BlocksTo.done {k q n:Nat} {d d':Array α} (hk:0 < k) (h:BlocksTo lt k (q * k) d) (h1:q * k ≤ n) (h2:n < (q + 1) * k) (hp:PermIn (q * k) n d d') (hs:SortedIn lt (q * k) n d'):Blocks lt k n d':=fun i=>by
 by_cases e:i < q
 ·have h3:(i + 1) * k ≤ q * k:=Nat.mul_le_mul_right k (by omega)
  rw [Nat.min_eq_left (by omega)]
  exact perm_keepS hp (.inr h3) (h i h3)
 ·by_cases e2:i = q
  ·subst e2
   rw [Nat.min_eq_right (by omega)]
   exact hs
  ·have h3:(q + 1) * k ≤ i * k:=Nat.mul_le_mul_right k (by omega)
   intro x y hx hxy hy
   have:min ((i + 1) * k) n ≤ n:=Nat.min_le_right _ _
   omega
structure Pairs (lt:α → α → Bool) (k n q:Nat) (d:Array α):Prop where
 lo:BlocksTo lt (2 * k) (q * (2 * k)) d
 hi:∀ i,2 * q ≤ i → SortedIn lt (i * k) (min ((i + 1) * k) n) d
theorem Pairs.start {k n:Nat} {d:Array α} (hk:0 < k) (h:Blocks lt k n d):Pairs lt k n 0 d:=⟨by rw [Nat.zero_mul];exact BlocksTo.zero (by omega),fun i _=>h i⟩
theorem two_mul_k (q k:Nat):q * (2 * k) = 2 * q * k:=by rw [← Nat.mul_assoc,Nat.mul_comm q 2]
theorem Pairs.left {k n q:Nat} {d:Array α} (h:Pairs lt k n q d) (hn:q * (2 * k) + k ≤ n):SortedIn lt (q * (2 * k)) (q * (2 * k) + k) d:=by
 have:=h.hi (2 * q) (Nat.le_refl _)
 rw [← two_mul_k,Nat.add_mul,Nat.one_mul,← two_mul_k,Nat.min_eq_left hn] at this
 exact this
theorem Pairs.right {k n q:Nat} {d:Array α} (h:Pairs lt k n q d):SortedIn lt (q * (2 * k) + k) (min (q * (2 * k) + 2 * k) n) d:=by
 have:=h.hi (2 * q + 1) (by omega)
 rw [Nat.add_mul,Nat.one_mul,← two_mul_k,show (2 * q + 1 + 1) * k = q * (2 * k) + 2 * k by rw [two_mul_k,show 2 * q + 1 + 1 = 2 * q + 2 by omega,Nat.add_mul]] at this
 exact this
theorem Pairs.step {k n q:Nat} {d d':Array α} (hk:0 < k) (h:Pairs lt k n q d) (hp:PermIn (q * (2 * k)) ((q + 1) * (2 * k)) d d') (hs:SortedIn lt (q * (2 * k)) ((q + 1) * (2 * k)) d'):Pairs lt k n (q + 1) d' :=
 ⟨h.lo.step (by omega) hp hs,fun i hi=>perm_keepS hp (.inl (by
  rw [two_mul_k]
  exact Nat.mul_le_mul_right k (by omega))) (h.hi i (by omega))⟩
theorem Pairs.done {k n q:Nat} {d d':Array α} (hk:0 < k) (h:Pairs lt k n q d) (h1:q * (2 * k) ≤ n) (h2:n < (q + 1) * (2 * k)) (hp:PermIn (q * (2 * k)) n d d') (hs:SortedIn lt (q * (2 * k)) n d'):Blocks lt (2 * k) n d' :=
 h.lo.done (by omega) h1 h2 hp hs
theorem Pairs.tail {k n q:Nat} {d:Array α} (h:Pairs lt k n q d) (hn:n ≤ q * (2 * k) + k):SortedIn lt (q * (2 * k)) n d:=by
 have:=h.hi (2 * q) (Nat.le_refl _)
 rw [← two_mul_k,Nat.add_mul,Nat.one_mul,← two_mul_k,Nat.min_eq_right hn] at this
 exact this
theorem Blocks.all {k n:Nat} {d:Array α} (h:Blocks lt k n d) (hn:n ≤ k):SortedIn lt 0 n d:=by
 have:=h 0
 rw [Nat.zero_mul,Nat.zero_add,Nat.one_mul,Nat.min_eq_right hn] at this
 exact this
end
end Go.Proofs.YtjpieiccpbcabaaGreat
