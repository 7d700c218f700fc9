/- Values built of parts: an item of a row, operations of moves and edits. Contracts: slices.Clone of heads, snap.item, snap.right; slices.EqualFunc of heads, differ.sameData. (ex_ldS_at ex_bldT5_at) Contracts: snap.right; slices.EqualFunc of heads, differ.sameData. (ex_ldS_at) -/
import Derived.Test.YtjpieiccpbcabaaGreatDifAKu
import Derived.Test.YtjpieiccpbcabaaGreatPutDKu
import Derived.Test.YtjpieiccpbcabaaGreatQFrKu
set_option linter.unusedVariables false
set_option linter.unusedSimpArgs false
namespace Go.Proofs.YtjpieiccpbcabaaGreat
open Go.RowKit
@[irreducible] noncomputable def mkB (t:TypeId) (w:World) (fs:List (Nat × Value)):Result Next:=((Instr.build t fs.toArray).run Tryz.prog w).andThen (fun v w=>.ok (.value v) w)
theorem mkB_ok {t:TypeId} {w:World} {fs:List (Nat × Value)} {v:Value} (h:(Instr.build t fs.toArray).run Tryz.prog w = .ok v w):mkB t w fs = .ok (.value v) w:=by
 unfold mkB
 rw [h]
 rfl
theorem exB (ρ:Operand → Value) (o:Oper) (t:TypeId) (fs:Array (Nat × Operand)) (ho:o.op = .build t fs) (w:World):(execOp ρ o).run Tryz.prog w = mkB t w (fs.map fun (i,x)=>(i,ρ x)).toList:=by
 unfold execOp mkB
 simp only [ho,Sem.run_bind,Sem.run_pure,Array.toArray_toList]
theorem zO_form:(Value.agg (codO.cs codO.z).toArray).cells = ([] ++ [Value.int .i64 0] ++ ([Value.int .i64 0,Value.int .i64 0,Value.int .i64 0,Value.int .i64 0,Value.int .i64 0,Value.int .i64 0,Value.string (str [])] ++ bv zID.1 ++ [Value.slice none 0 0])).toArray:=rfl
/-! the rules of the walk -/
@[go_sem] theorem hs_eq_nil (w:World) (a:Option Addr) (n c:Nat):(binOp .eql 108 (.slice a n c) (.slice none 0 0)).run Tryz.prog w = .ok (.bool a.isNone) w :=
 Lib.run_eql_slice_nil w _ _ a n c 0 0 Tryz.underlying108
def NewHs (w:World) (l:List Hd) (e:Ending) (w':World):Prop:=∃ A c,e = .returned (.slice A l.length c) ∧ OwnC codH w w' A c l ∧ Fr noB w w'
set_option maxRecDepth 100000 in
theorem clHeads_any (w:World) (A:Option Addr) (c:Nat) (l:List Hd) (n:Nat) (hn:l.length = n) (hs:Sl w A (codH.row l)) (hb:l.length ≤ 2932031007402) :
  Calls Tryz.prog 112 #[.slice A n c] w (NewHs w l):=by
 subst hn
 rcases A with _ | ad
 ·have hl:l = []:=by
   cases l with
   | nil=>rfl
   | cons b t=>obtain ⟨g,off,h,_⟩:=hs (Cod.row_ne (by simp));cases h
  subst hl
  go_enter Tryz.func112,Tryz.ntmps112
  go_wp2
  go_ret
  exact ⟨none,0,rfl,World.ownsRow_nil _ _ _ _,Fr.refl _ _⟩
 ·have hown:=World.ownsRow_lit (base:=w.heap.size) (e:=149) (size:=34) w #[] 0 (Nat.le_refl _) (by simp [maxLen]) rfl
  have hs1:Sl (w.alloc (.cells #[] 149)) (some ad) (codH.row l):=hs.fr0 ((Fr.refl noB w).alloc _)
  go_enter Tryz.func112,Tryz.ntmps112
  go_wp2_with (at_builtin;refine wpList_app _ etH rfl _ _ rfl w.heap.size _ _ _ rfl hown (some ad) l.length c (codH.row l) rfl hs1 (Cod.row_len l) (Cod.row_one l) (by omega) (by simp) ?_;intro v' w1 h1 h2 h3)
  go_ret
  obtain ⟨A',c',rfl,_,_⟩:=own_form h1
  simp only [Nat.zero_add,List.nil_append] at h1
  exact ⟨A',c',by simp,h1,((Fr.refl noB w).alloc _).stepG (r:=some w.heap.size) h2 (by intro g hg;injection hg with hg;omega)⟩
/-! sameData -/
end Go.Proofs.YtjpieiccpbcabaaGreat
