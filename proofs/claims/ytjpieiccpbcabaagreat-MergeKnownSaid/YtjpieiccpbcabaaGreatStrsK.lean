/- Contracts: readers and numbers of package enc. Bytes and strings: conversions. -/
import Derived.Test.YtjpieiccpbcabaaGreatProg
import Derived.Test.YtjpieiccpbcabaaGreatMemK
import Derived.Test.YtjpieiccpbcabaaGreatNumBK
import Derived.WalkSpells
import Derived.Outline
import Derived.Laws.BytesArg
import Derived.Lib.SlBytesConst
namespace Go.Proofs.YtjpieiccpbcabaaGreat
open Go.RowKit
set_option linter.unusedVariables false
set_option linter.unusedSimpArgs false

theorem ET.mk' {P:Program} {t e:TypeId} {z:Value} {size bytes:Nat} (ht:P.underlying t = some (.slice e))
  (h:(P.info? e).map (fun i=>(i.zero,i.size,i.bytes)) = some (some z,size,bytes)) (hz:z.cells.size = size) (hs:0 < size) (hb:0 < bytes):ET P t e size bytes:=by
 obtain ⟨i,h1,h2,h3,h4⟩:=info_parts h
 exact ⟨ht,⟨i,z,h1,h2,h3,h4,hz⟩,hs,hb⟩
theorem etBytes:ET Tryz.prog 134 5 1 1:=ET.mk' (z:=.int .u8 0) Tryz.underlying134 (by kernel_rfl) rfl (by decide) (by decide)

@[go_sem] theorem bytes_eq_nil (w:World) (a:Option Addr) (n c:Nat):(binOp .eql 134 (.slice a n c) (.slice none 0 0)).run Tryz.prog w = .ok (.bool a.isNone) w :=
 Lib.run_eql_slice_nil w _ _ a n c 0 0 Tryz.underlying134

section
variable (w:World) (a:Option Addr) (n c:Nat)
end

def NewBytes (w:World) (l:List UInt8) (e:Ending) (w':World):Prop :=
 ∃ A c,e = .returned (.slice A l.length c) ∧ w'.ownsRow w.heap.size 5 1 (.slice A l.length c) l.length (bv l) ∧ Fr noB w w'

theorem NewBytes.mk {w w':World} {v:Value} {n:Nat} {l:List UInt8} (ho:w'.ownsRow w.heap.size 5 1 v n (bv l)) (hf:Fr noB w w'):NewBytes w l (.returned v) w':=by
 have hn:n = l.length:=by have:=ho.1;simp at this;omega
 subst hn
 obtain ⟨A,c,rfl,_,_⟩:=own_form ho
 exact ⟨A,c,rfl,ho,hf⟩

theorem clone_any (w:World) (A:Option Addr) (c:Nat) (l:List UInt8) (hs:Sl w A (bv l)) (hb:l.length ≤ 140737488355328) :
  Calls Tryz.prog 128 #[.slice A l.length c] w (NewBytes w l):=by
 rcases A with _ | ad
 ·have hl:l = []:=by
   cases l with
   | nil=>rfl
   | cons b t=>obtain ⟨g,off,h,_⟩:=hs (by simp [bv]);cases h
  subst hl
  go_enter Tryz.func128,Tryz.ntmps128
  go_wp2
  go_ret
  exact ⟨none,0,rfl,World.ownsRow_nil _ _ _ _,Fr.refl _ _⟩
 ·have hown:=World.ownsRow_lit (base:=w.heap.size) (e:=5) (size:=1) w #[] 0 (Nat.le_refl _) (by simp [maxLen]) rfl
  have hs1:Sl (w.alloc (.cells #[] 5)) (some ad) (bv l):=hs.fr0 ((Fr.refl noB w).alloc _)
  go_enter Tryz.func128,Tryz.ntmps128
  go_wp2_with (at_builtin;refine wpList_app _ etBytes rfl _ _ rfl w.heap.size _ _ _ rfl hown (some ad) l.length c (bv l) rfl hs1 (by simp) (bv_one l) (by omega) (by simp) ?_;intro v' w1 h1 h2 h3)
  go_ret
  obtain ⟨A',c',rfl,_,_⟩:=own_form h1
  simp only [Nat.zero_add,List.nil_append] at h1
  exact ⟨A',c',by simp,h1,((Fr.refl noB w).alloc _).stepG (r:=some w.heap.size) h2 (by intro g hg;injection hg with hg;omega)⟩

theorem clone_n (w:World) (A:Option Addr) (c:Nat) (l:List UInt8) (n:Nat) (hn:l.length = n) (hs:Sl w A (bv l)) (hb:l.length ≤ 140737488355328) :
  Calls Tryz.prog 128 #[.slice A n c] w (NewBytes w l):=by subst hn;exact clone_any w A c l hs hb
def rn (most i u:Nat) (s:RS):Option (Nat × List UInt8):=if s.2 then none else gnAux most i u s.1

end Go.Proofs.YtjpieiccpbcabaaGreat
namespace Go.Proofs.YtjpieiccpbcabaaGreat
open Go.RowKit
set_option linter.unusedVariables false
set_option linter.unusedSimpArgs false

def str (l:List UInt8):ByteArray:=⟨l.toArray⟩

theorem str_toList (l:List UInt8):(str l).toList = l:=by rw [ByteArray.toList_eq];rfl

end Go.Proofs.YtjpieiccpbcabaaGreat
