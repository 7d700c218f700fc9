/- Plain: rotations of a row, and merging two sorted rows by a rotation at the right cut. -/
import Derived.Sort.LotA
import Derived.Sort.LotD2
import Derived.Sort.Lot0
set_option linter.unusedVariables false
set_option linter.unusedSimpArgs false
namespace Go.Proofs.YtjpieiccpbcabaaGreat
open Go.Sort
variable {α:Type} [Inhabited α]
structure RotIn (a m b:Nat) (d d':Array α):Prop where
 size:d'.size = d.size
 out:∀ i,i < a ∨ b ≤ i → d'[i]! = d[i]!
 one:∀ i,i < b - m → d'[a + i]! = d[m + i]!
 two:∀ i,i < m - a → d'[a + (b - m) + i]! = d[a + i]!
theorem RotIn.left {a b:Nat} (hab:a ≤ b) (d:Array α):RotIn a a b d d:=⟨rfl,fun _ _=>rfl,fun _ _=>rfl,fun i hi=>by omega⟩
theorem RotIn.right {a b:Nat} (hab:a ≤ b) (d:Array α):RotIn a b b d d:=⟨rfl,fun _ _=>rfl,fun i hi=>by omega,fun i hi=>by rw [Nat.sub_self,Nat.add_zero]⟩
theorem RotIn.one' {a m b:Nat} {d d':Array α} (h:RotIn a m b d d') (ham:a ≤ m) (hmb:m ≤ b) {i:Nat} (h1:a ≤ i) (h2:i < a + (b - m)):d'[i]! = d[i + m - a]!:=by
 have:=h.one (i - a) (by omega)
 rwa [show a + (i - a) = i by omega,show m + (i - a) = i + m - a by omega] at this
theorem RotIn.two' {a m b:Nat} {d d':Array α} (h:RotIn a m b d d') (ham:a ≤ m) (hmb:m ≤ b) {i:Nat} (h1:a + (b - m) ≤ i) (h2:i < b):d'[i]! = d[i - (b - m)]!:=by
 have:=h.two (i - (a + (b - m))) (by omega)
 rwa [show a + (b - m) + (i - (a + (b - m))) = i by omega,show a + (i - (a + (b - m))) = i - (b - m) by omega] at this
theorem RotIn.exists {a m b:Nat} (ham:a ≤ m) (hmb:m ≤ b) (d:Array α) (hb:b ≤ d.size):∃ d',RotIn a m b d d':=by
 refine ⟨Array.ofFn (n:=d.size) fun i=>if i.1 < a then d[i.1]! else if i.1 < a + (b - m) then d[i.1 + m - a]! else if i.1 < b then d[i.1 - (b - m)]! else d[i.1]!,by simp,?_,?_,?_⟩
 ·intro i hi
  by_cases hd:i < d.size
  ·rw [getElem!_pos _ i (by simpa using hd)]
   simp only [Array.getElem_ofFn]
   rcases hi with hi | hi
   ·rw [if_pos hi]
   ·rw [if_neg (by omega),if_neg (by omega),if_neg (by omega)]
  ·rw [getElem!_neg _ i (by simpa using hd),getElem!_neg d i hd]
 ·intro i hi
  rw [getElem!_pos _ (a + i) (by simp;omega)]
  simp only [Array.getElem_ofFn]
  rw [if_neg (by omega),if_pos (by omega),show a + i + m - a = m + i by omega]
 ·intro i hi
  rw [getElem!_pos _ (a + (b - m) + i) (by simp;omega)]
  simp only [Array.getElem_ofFn]
  rw [if_neg (by omega),if_neg (by omega),if_pos (by omega),show a + (b - m) + i - (b - m) = a + i by omega]
structure SwIn (a b n:Nat) (d d':Array α):Prop where
 size:d'.size = d.size
 one:∀ i,i < n → d'[a + i]! = d[b + i]!
 two:∀ i,i < n → d'[b + i]! = d[a + i]!
 out:∀ i,(i < a ∨ a + n ≤ i) → (i < b ∨ b + n ≤ i) → d'[i]! = d[i]!
theorem SwIn.zero (a b:Nat) (d:Array α):SwIn a b 0 d d:=⟨rfl,fun i hi=>by omega,fun i hi=>by omega,fun _ _ _=>rfl⟩
theorem SwIn.step {a b n:Nat} {d d':Array α} (h:SwIn a b n d d') (hab:a + n < b) (hb:b + n < d.size):SwIn a b (n + 1) d (swp d' (a + n) (b + n)):=by
 have hs:=h.size
 refine ⟨by rw [swp_size];exact hs,fun i hi=>?_,fun i hi=>?_,fun i h1 h2=>?_⟩
 ·rw [swp_get d' (by omega) (by omega)]
  by_cases e:i = n
  ·subst e
   rw [if_neg (by omega),if_pos rfl]
   exact h.out _ (by omega) (by omega)
  ·rw [if_neg (by omega),if_neg (by omega)]
   exact h.one i (by omega)
 ·rw [swp_get d' (by omega) (by omega)]
  by_cases e:i = n
  ·subst e
   rw [if_pos rfl]
   exact h.out _ (by omega) (by omega)
  ·rw [if_neg (by omega),if_neg (by omega)]
   exact h.two i (by omega)
 ·rw [swp_get d' (by omega) (by omega),if_neg (by omega),if_neg (by omega)]
  exact h.out i (by omega) (by omega)
theorem RotIn.big {m i j:Nat} {d d' T:Array α} (h:RotIn (m - i) m (m + j) d T) (hw:SwIn (m - i) m j d d') (hij:j < i) (him:i ≤ m):RotIn (m - i + j) m (m + j) d' T:=by
 refine ⟨by rw [h.size,hw.size],fun k hk=>?_,fun k hk=>?_,fun k hk=>?_⟩
 ·by_cases hk':m - i ≤ k ∧ k < m - i + j
  ·have:=h.one (k - (m - i)) (by omega)
   rw [show m - i + (k - (m - i)) = k by omega] at this
   rw [this]
   have:=hw.one (k - (m - i)) (by omega)
   rw [show m - i + (k - (m - i)) = k by omega] at this
   rw [this]
  ·rw [h.out k (by omega),hw.out k (by omega) (by omega)]
 ·rw [hw.two k (by omega)]
  by_cases hk':k < i - j
  ·have:=h.two k (by omega)
   rw [show m - i + (m + j - m) + k = m - i + j + k by omega] at this
   exact this
  ·have:=h.two k (by omega)
   rw [show m - i + (m + j - m) + k = m - i + j + k by omega] at this
   exact this
 ·have:=h.two (j + k) (by omega)
  rw [show m - i + (m + j - m) + (j + k) = m - i + j + (m + j - m) + k by omega] at this
  rw [this,← Nat.add_assoc,hw.out _ (by omega) (by omega)]
theorem RotIn.small {m i j:Nat} {d d' T:Array α} (h:RotIn (m - i) m (m + j) d T) (hw:SwIn (m - i) (m + j - i) i d d') (hij:i < j) (him:i ≤ m):RotIn (m - i) m (m + j - i) d' T:=by
 refine ⟨by rw [h.size,hw.size],fun k hk=>?_,fun k hk=>?_,fun k hk=>?_⟩
 ·by_cases hk':m + j - i ≤ k ∧ k < m + j
  ·have:=h.two (k - (m + j - i)) (by omega)
   rw [show m - i + (m + j - m) + (k - (m + j - i)) = k by omega] at this
   rw [this]
   have:=hw.two (k - (m + j - i)) (by omega)
   rw [show m + j - i + (k - (m + j - i)) = k by omega] at this
   rw [this]
  ·rw [h.out k (by omega),hw.out k (by omega) (by omega)]
 ·have:=h.one k (by omega)
  rw [this,hw.out (m + k) (by omega) (by omega)]
 ·have:=h.one (m + j - i - m + k) (by omega)
  rw [show m - i + (m + j - i - m + k) = m - i + (m + j - i - m) + k by omega] at this
  rw [this,hw.one k (by omega)]
  congr 1
  omega
theorem RotIn.last {m i:Nat} {d d' T:Array α} (h:RotIn (m - i) m (m + i) d T) (hw:SwIn (m - i) m i d d') (him:i ≤ m):∀ k:Nat,d'[k]! = T[k]!:=by
 intro k
 by_cases h1:m - i ≤ k ∧ k < m
 ·have a1:=h.one (k - (m - i)) (by omega)
  have a2:=hw.one (k - (m - i)) (by omega)
  rw [show m - i + (k - (m - i)) = k by omega] at a1 a2
  rw [a1,a2]
 ·by_cases h2:m ≤ k ∧ k < m + i
  ·have a1:=h.two (k - m) (by omega)
   have a2:=hw.two (k - m) (by omega)
   rw [show m - i + (m + i - m) + (k - m) = k by omega] at a1
   rw [show m + (k - m) = k by omega] at a2
   rw [a1,a2]
  ·rw [h.out k (by omega),hw.out k (by omega) (by omega)]
theorem ext_all {d d':Array α} (hs:d.size = d'.size) (h:∀ k:Nat,d[k]! = d'[k]!):d = d':=by
 refine Array.ext hs fun i h1 h2=>?_
 have:=h i
 rwa [getElem!_pos d i h1,getElem!_pos d' i h2] at this
theorem RotIn.up {a k:Nat} {d d':Array α} (h:RotIn a (a + 1) (k + 1) d d') (hak:a ≤ k) (hk:k + 1 < d.size):RotIn a (a + 1) (k + 2) d (swp d' k (k + 1)):=by
 have hs:=h.size
 refine ⟨by rw [swp_size];exact hs,fun i hi=>?_,fun i hi=>?_,fun i hi=>?_⟩
 ·rw [swp_get d' (by omega) (by omega),if_neg (by omega),if_neg (by omega)]
  exact h.out i (by omega)
 ·rw [swp_get d' (by omega) (by omega),if_neg (by omega)]
  by_cases e:a + i = k
  ·rw [if_pos e,h.out (k + 1) (by omega)]
   congr 1
   omega
  ·rw [if_neg e]
   exact h.one i (by omega)
 ·have e0:i = 0:=by omega
  subst e0
  rw [swp_get d' (by omega) (by omega),if_pos (by omega)]
  have:=h.two 0 (by omega)
  rw [← this]
  congr 1
  omega
theorem RotIn.down {m k:Nat} {d d':Array α} (h:RotIn k m (m + 1) d d') (hk:0 < k) (hkm:k ≤ m) (hm:m < d.size):RotIn (k - 1) m (m + 1) d (swp d' k (k - 1)):=by
 have hs:=h.size
 refine ⟨by rw [swp_size];exact hs,fun i hi=>?_,fun i hi=>?_,fun i hi=>?_⟩
 ·rw [swp_get d' (by omega) (by omega),if_neg (by omega),if_neg (by omega)]
  exact h.out i (by omega)
 ·have e0:i = 0:=by omega
  subst e0
  rw [swp_get d' (by omega) (by omega),if_pos (by omega)]
  have:=h.one 0 (by omega)
  rw [← this]
  rfl
 ·rw [swp_get d' (by omega) (by omega),if_neg (by omega)]
  by_cases e:k - 1 + (m + 1 - m) + i = k
  ·rw [if_pos e,h.out (k - 1) (by omega)]
   congr 1
   omega
  ·rw [if_neg e]
   have:=h.two (i - 1) (by omega)
   rw [show k + (m + 1 - m) + (i - 1) = k - 1 + (m + 1 - m) + i by omega,show k + (i - 1) = k - 1 + i by omega] at this
   exact this
theorem cut_parts {lt:α → α → Bool} (hS:SWO lt) {a s m e b:Nat} {d d':Array α} (h:RotIn s m e d d') (h1:a ≤ s) (h2:s ≤ m) (h3:m ≤ e) (h4:e ≤ b)
  (sl:SortedIn lt a m d) (sr:SortedIn lt m b d) (hlo:s < m → m < e → lt d[e - 1]! d[s]! = true) (hhi:a < s → e < b → lt d[e]! d[s - 1]! = false) :
  SortedIn lt a s d' ∧ SortedIn lt s (s + (e - m)) d' ∧ SortedIn lt (s + (e - m)) e d' ∧ SortedIn lt e b d' ∧ ∀ x y,a ≤ x → x < s + (e - m) → s + (e - m) ≤ y → y < b → lt d'[y]! d'[x]! = false:=by
 have le1:∀ i j,a ≤ i → i ≤ j → j < m → lt d[j]! d[i]! = false:=fun i j hi hij hj=>by
  rcases Nat.lt_or_eq_of_le hij with h | rfl
  ·exact sl i j hi h hj
  ·exact hS.irrefl _
 have le2:∀ i j,m ≤ i → i ≤ j → j < b → lt d[j]! d[i]! = false:=fun i j hi hij hj=>by
  rcases Nat.lt_or_eq_of_le hij with h | rfl
  ·exact sr i j hi h hj
  ·exact hS.irrefl _
 refine ⟨fun i j hi hij hj=>?_,fun i j hi hij hj=>?_,fun i j hi hij hj=>?_,fun i j hi hij hj=>?_,fun x y hx hxm hy hyb=>?_⟩
 ·rw [h.out i (by omega),h.out j (by omega)];exact sl i j (by omega) hij (by omega)
 ·rw [h.one' h2 h3 hi (by omega),h.one' h2 h3 (by omega) hj];exact sr _ _ (by omega) (by omega) (by omega)
 ·rw [h.two' h2 h3 hi (by omega),h.two' h2 h3 (by omega) hj];exact sl _ _ (by omega) (by omega) (by omega)
 ·rw [h.out i (by omega),h.out j (by omega)];exact sr i j (by omega) hij (by omega)
 ·by_cases hx':x < s
  ·rw [h.out x (by omega)]
   by_cases hy':y < e
   ·rw [h.two' h2 h3 hy hy']
    exact le1 _ _ hx (by omega) (by omega)
   ·rw [h.out y (by omega)]
    have k1:=le2 e y (by omega) (by omega) hyb
    have k2:=hhi (by omega) (by omega)
    have k3:=le1 x (s - 1) hx (by omega) (by omega)
    exact hS.ntrans _ _ _ k1 (hS.ntrans _ _ _ k2 k3)
  ·rw [h.one' h2 h3 (by omega) hxm]
   by_cases hy':y < e
   ·rw [h.two' h2 h3 hy hy']
    have k2:=hlo (by omega) (by omega)
    have k1:=le2 (x + m - s) (e - 1) (by omega) (by omega) (by omega)
    have k3:=le1 s (y - (e - m)) (by omega) (by omega) (by omega)
    -- x' ≤ e-1 < s ≤ y'
    cases hc:lt d[y - (e - m)]! d[x + m - s]! with
    | false=>rfl
    | true =>
     have a1:=hS.ntrans _ _ _ k3 (show lt d[s]! d[e - 1]! = false from by
      cases hq:lt d[s]! d[e - 1]! with
      | false=>rfl
      | true=>have:=hS.trans _ _ _ k2 hq;rw [hS.irrefl] at this;cases this)
     have a2:=hS.ntrans _ _ _ a1 k1
     rw [a2] at hc;cases hc
   ·rw [h.out y (by omega)]
    exact le2 _ _ (by omega) (by omega) hyb
theorem sorted_join {lt:α → α → Bool} {a mid b:Nat} {d:Array α} (h1:SortedIn lt a mid d) (h2:SortedIn lt mid b d) (hx:∀ x y,a ≤ x → x < mid → mid ≤ y → y < b → lt d[y]! d[x]! = false):SortedIn lt a b d:=by
 intro i j hi hij hj
 by_cases h:j < mid
 ·exact h1 i j hi hij h
 ·by_cases h':i < mid
  ·exact hx i j hi h' (by omega) hj
  ·exact h2 i j (by omega) hij hj
theorem perm_cross {lt:α → α → Bool} {a mid b:Nat} {d d':Array α} (hb:b ≤ d.size) (ham:a ≤ mid) (hmb:mid ≤ b) (h1:PermIn a mid d d') (hx:∀ x y,a ≤ x → x < mid → mid ≤ y → y < b → lt d[y]! d[x]! = false):∀ x y,a ≤ x → x < mid → mid ≤ y → y < b → lt d'[y]! d'[x]! = false:=by
 intro x y h2 h3 h4 h5
 rw [h1.2.1 y (by omega)]
 exact permIn_all d d' a mid (fun v=>lt d[y]! v = false) (by omega) h1 (fun i hi hi'=>hx i y hi hi' h4 h5) x h2 h3
theorem perm_cross' {lt:α → α → Bool} {a mid b:Nat} {d d':Array α} (hb:b ≤ d.size) (ham:a ≤ mid) (hmb:mid ≤ b) (h1:PermIn mid b d d') (hx:∀ x y,a ≤ x → x < mid → mid ≤ y → y < b → lt d[y]! d[x]! = false):∀ x y,a ≤ x → x < mid → mid ≤ y → y < b → lt d'[y]! d'[x]! = false:=by
 intro x y h2 h3 h4 h5
 rw [h1.2.1 x (by omega)]
 exact permIn_all d d' mid b (fun v=>lt v d[x]! = false) hb h1 (fun i hi hi'=>hx x i h2 h3 hi hi') y h4 h5
end Go.Proofs.YtjpieiccpbcabaaGreat
