/- Contract: obj.Kind. Contract: slices.Compact of IDs, in place. -/
import Derived.Test.YtjpieiccpbcabaaGreatRdCKu
import Derived.Test.YtjpieiccpbcabaaGreatRdQKu
import Derived.Lib.SliceRun
set_option linter.unusedVariables false
set_option linter.unusedSimpArgs false
namespace Go.Proofs.YtjpieiccpbcabaaGreat
open Go.RowKit
end Go.Proofs.YtjpieiccpbcabaaGreat
namespace Go.Proofs.YtjpieiccpbcabaaGreat
open Go.RowKit
def RwI (w:World) (g:Nat) (l:List ID):Prop:=∃ cur:List Value,w.heap[g]? = some (.cells cur.toArray 24 (0,0)) ∧ cur.take (l.length * 32) = idc l
theorem RwI.own {w0 w:World} {A:Option Addr} {c:Nat} {l:List ID} (h:OwnC codI w0 w A c l) (h0:l ≠ []):∃ g,A = some ⟨g,0,none⟩ ∧ RwI w g l:=by
 rcases h.2 with ⟨hv,hn⟩ | ⟨g,cap,cur,hv,hb,hg,hnc,hm,hs,ht⟩
 ·exact absurd (List.length_eq_zero_iff.1 hn) h0
 ·injection hv with h1 h2 h3
  exact ⟨g,h1,cur.toList,(by rw [Array.toArray_toList];exact hg),ht⟩
end Go.Proofs.YtjpieiccpbcabaaGreat
namespace Go.Proofs.YtjpieiccpbcabaaGreat
open Go.RowKit Go.Maps
theorem cb_range (a b:List UInt8):Lib.compareBytes a b = -1 ∨ Lib.compareBytes a b = 0 ∨ Lib.compareBytes a b = 1:=by
 induction a generalizing b with
 | nil=>cases b <;> simp [Lib.compareBytes]
 | cons x a ih=>cases b with
  | nil=>simp [Lib.compareBytes]
  | cons y b =>
   simp only [Lib.compareBytes]
   split
   ·simp
   ·split
    ·simp
    ·exact ih b
theorem cb_anti (a b:List UInt8):Lib.compareBytes a b = - Lib.compareBytes b a:=by
 induction a generalizing b with
 | nil=>cases b <;> simp [Lib.compareBytes]
 | cons x a ih=>cases b with
  | nil=>simp [Lib.compareBytes]
  | cons y b =>
   simp only [Lib.compareBytes]
   rcases Nat.lt_trichotomy x.toNat y.toNat with h | h | h
   ·have h1:x < y:=UInt8.lt_iff_toNat_lt.2 h
    have h2:¬ y < x:=fun h'=>by have:=UInt8.lt_iff_toNat_lt.1 h';omega
    simp [h1,h2]
   ·have h1:¬ x < y:=fun h'=>by have:=UInt8.lt_iff_toNat_lt.1 h';omega
    have h2:¬ y < x:=fun h'=>by have:=UInt8.lt_iff_toNat_lt.1 h';omega
    simp [h1,h2,ih b]
   ·have h1:¬ x < y:=fun h'=>by have:=UInt8.lt_iff_toNat_lt.1 h';omega
    have h2:y < x:=UInt8.lt_iff_toNat_lt.2 h
    simp [h1,h2]
theorem cb_eq (a b:List UInt8):Lib.compareBytes a b = 0 ↔ a = b:=by
 induction a generalizing b with
 | nil=>cases b <;> simp [Lib.compareBytes]
 | cons x a ih=>cases b with
  | nil=>simp [Lib.compareBytes]
  | cons y b =>
   simp only [Lib.compareBytes]
   rcases Nat.lt_trichotomy x.toNat y.toNat with h | h | h
   ·have h1:x < y:=UInt8.lt_iff_toNat_lt.2 h
    have h2:x ≠ y:=by rintro rfl;omega
    simp [h1,h2]
   ·have h1:¬ x < y:=fun h'=>by have:=UInt8.lt_iff_toNat_lt.1 h';omega
    have h2:¬ y < x:=fun h'=>by have:=UInt8.lt_iff_toNat_lt.1 h';omega
    have h3:x = y:=UInt8.toNat_inj.1 h
    simp [h1,h2,h3,ih b]
   ·have h1:¬ x < y:=fun h'=>by have:=UInt8.lt_iff_toNat_lt.1 h';omega
    have h2:y < x:=UInt8.lt_iff_toNat_lt.2 h
    have h3:x ≠ y:=by rintro rfl;omega
    simp [h1,h2,h3]
theorem cmpI_eq (x y:ID):cmpI x y = 0 ↔ x = y:=by
 unfold cmpI
 rw [cb_eq]
 exact ⟨fun h=>Subtype.ext h,fun h=>congrArg Subtype.val h⟩
theorem cmpI_anti (x y:ID):cmpI x y = - cmpI y x:=cb_anti _ _
theorem cmpI_self (x:ID):cmpI x x = 0:=(cmpI_eq x x).2 rfl
end Go.Proofs.YtjpieiccpbcabaaGreat
