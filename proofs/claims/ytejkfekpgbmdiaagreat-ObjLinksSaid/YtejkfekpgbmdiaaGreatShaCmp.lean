/- Contracts: the order of IDs (sha.Cmp, bytes.Compare). -/
import Derived.Test.YtejkfekpgbmdiaaGreatIds
import Derived.Lib.Bytealg
import Derived.Lib.BytesEntry
import Derived.Sort.Grow
import Derived.Deep.QuietTactic
import Derived.BigQuiet
namespace Go.Proofs.YtejkfekpgbmdiaaGreat
open Go.RowKit Go.Sort
set_option linter.unusedVariables false
set_option linter.unusedSimpArgs false

theorem load_id (w : World) (a : Nat) (x : ID) (hx : rdI w a 0 = some x) : (Extern.Bytes.loadBytes ⟨a, 0, none⟩ 32 .empty).run Tryz.prog w = .ok ⟨x.1.toArray⟩ w := by
  have h := Lib.run_loadBytesX (P := Tryz.prog) w (x.1.map fun b => (b.toNat : Int)) ⟨a, 0, none⟩ .empty (fun j u hu => by
    rw [Addr.add_mid]
    refine rdI_rd hx j _ ?_
    rw [List.getElem?_map] at hu
    simp only [bv, List.getElem?_map]
    cases hj : x.1[j]? with
    | none => rw [hj] at hu; cases hu
    | some b => rw [hj] at hu; simp only [Option.map_some, Option.some.injEq] at hu ⊢; rw [← hu]; rfl)
  rw [List.length_map, x.2] at h
  rw [h]
  congr 1
  apply ByteArray.ext
  simp only [Lib.bytesOf, List.map_map]
  have e : (x.1.map ((fun n : Int => n.toNat.toUInt8) ∘ fun b : UInt8 => (b.toNat : Int))) = x.1 := by
    conv => rhs; rw [← List.map_id x.1]
    exact List.map_congr_left (fun b _ => by simp)
  simpa using e
theorem bg_compare (w : World) (a b : Nat) (x y : ID) (hx : rdI w a 0 = some x) (hy : rdI w b 0 = some y) :
    (callFunc 126 #[.slice (some ⟨a, 0, none⟩) 32 32, .slice (some ⟨b, 0, none⟩) 32 32]).run Tryz.prog w = .ok (.value (.int .i64 (Lib.compareBytes x.1 y.1))) w := by
  rw [run_callFunc_extern Tryz.func126 (by kernel_rfl) (by kernel_rfl) (by kernel_rfl) (e := Extern.BytealgCompare.compare) (by kernel_rfl)]
  show (((do pure (goInt (Extern.BytealgCompare.cmp (← Extern.Bytes.bytesOf (.slice (some ⟨a, 0, none⟩) 32 32)) (← Extern.Bytes.bytesOf (.slice (some ⟨b, 0, none⟩) 32 32)))) : Sem Value)).run Tryz.prog w).andThen _ = _
  simp only [Extern.Bytes.bytesOf, Sem.run_bind, load_id w a x hx, load_id w b y hy, Result.andThen_ok, Sem.run_pure, Lib.cmp_eq]
  rfl
theorem bcompare_any (w : World) (a b : Nat) (x y : ID) (hx : rdI w a 0 = some x) (hy : rdI w b 0 = some y) :
    Calls Tryz.prog 94 #[.slice (some ⟨a, 0, none⟩) 32 32, .slice (some ⟨b, 0, none⟩) 32 32] w fun e w' => e = .returned (.int .i64 (Lib.compareBytes x.1 y.1)) ∧ w = w' := by
  have hc := bg_compare w a b x y hx hy
  go_enter Tryz.func94, Tryz.ntmps94
  go_wp2
  go_ret
  exact ⟨rfl, rfl⟩

def cmpI (x y : ID) : Int := Lib.compareBytes x.1 y.1
/-- exact: two blocks are laid, nothing else -/
def CmpTo (w : World) (v : Int) (e : Ending) (w' : World) : Prop := e = .returned (.int .i64 v) ∧ ∃ q os, w' = grow (w.drewN q) os

theorem cmp_any (w : World) (x y : ID) : Calls Tryz.prog 55 #[encI x, encI y] w (CmpTo w (cmpI x y)) := by
  go_enter Tryz.func55, Tryz.ntmps55
  go_wp2
  have r1 : rdI ((w.alloc (ido x)).alloc (ido y)) w.heap.size 0 = some x := by rw [rdI_old _ _ _ _ (by simp), rdI_new]
  have r2 : rdI ((w.alloc (ido x)).alloc (ido y)) (w.heap.size + 1) 0 = some y := by
    have := rdI_new (w.alloc (ido x)) y
    rwa [World.size_alloc] at this
  go_quiet ((go_at_call 94; exact Calls.quiet_of_same ((bcompare_any _ _ _ x y (by rw [rdI_drewN]; exact r1) (by rw [rdI_drewN]; exact r2)).mono (fun _ _ h => ⟨h.1, h.2.symm⟩))))
  go_wp2
  go_ret
  refine ⟨rfl, nq, #[ido x, ido y], ?_⟩
  rw [alloc_eq_grow, alloc_eq_grow, grow_grow]
  rfl
theorem CmpTo.fr {w w' : World} {v : Int} {e : Ending} (h : CmpTo w v e w') : Fr noB w w' := by
  obtain ⟨_, q, os, rfl⟩ := h
  refine ⟨rfl, rfl, rfl, by simp [grow, World.drewN], fun k hk _ => ?_⟩
  simp [grow, World.drewN, Array.getElem?_append_left hk]

/-! rows of IDs -/
theorem ET.mk' {P : Program} {t e : TypeId} {z : Value} {size bytes : Nat} (ht : P.underlying t = some (.slice e))
    (h : (P.info? e).map (fun i => (i.zero, i.size, i.bytes)) = some (some z, size, bytes)) (hz : z.cells.size = size) (hs : 0 < size) (hb : 0 < bytes) : ET P t e size bytes := by
  obtain ⟨i, h1, h2, h3, h4⟩ := info_parts h
  exact ⟨ht, ⟨i, z, h1, h2, h3, h4, hz⟩, hs, hb⟩
theorem etIDs : ET Tryz.prog 39 45 32 32 := ET.mk' (z := .agg (bv zID.1).toArray) Tryz.underlying39 (by kernel_rfl) (by simp [Value.cells, zID]) (by decide) (by decide)
@[go_sem] theorem ids_eq_nil (w : World) (a : Option Addr) (n c : Nat) : (binOp .eql 39 (.slice a n c) (.slice none 0 0)).run Tryz.prog w = .ok (.bool a.isNone) w :=
  Lib.run_eql_slice_nil w _ _ a n c 0 0 Tryz.underlying39

/-- a row of IDs of the call's own -/
abbrev OwnD (w0 w : World) (A : Option Addr) (c : Nat) (l : List ID) : Prop := w.ownsRow w0.heap.size 45 32 (.slice A l.length c) l.length (idc l)
def NewIDs (w : World) (l : List ID) (e : Ending) (w' : World) : Prop := ∃ A c, e = .returned (.slice A l.length c) ∧ OwnD w w' A c l ∧ Fr noB w w'

theorem idclone_any (w : World) (A : Option Addr) (c : Nat) (l : List ID) (n : Nat) (hn : l.length = n) (hs : Sl w A (idc l)) (hb : l.length ≤ 1000000000000) :
    Calls Tryz.prog 53 #[.slice A n c] w (NewIDs w l) := by
  subst hn
  rcases A with _ | ad
  · have hl : l = [] := by
      cases l with
      | nil => rfl
      | cons b t => obtain ⟨g, off, h, _⟩ := hs (by intro h0; have := idc_length (b :: t); rw [h0] at this; simp at this); cases h
    subst hl
    go_enter Tryz.func53, Tryz.ntmps53
    go_wp2
    go_ret
    exact ⟨none, 0, rfl, World.ownsRow_nil _ _ _ _, Fr.refl _ _⟩
  · have hown := World.ownsRow_lit (base := w.heap.size) (e := 45) (size := 32) w #[] 0 (Nat.le_refl _) (by simp [maxLen]) rfl
    have hs1 : Sl (w.alloc (.cells #[] 45)) (some ad) (idc l) := hs.fr0 ((Fr.refl noB w).alloc _)
    go_enter Tryz.func53, Tryz.ntmps53
    go_wp2_with (at_builtin; refine wpList_app _ etIDs rfl _ _ rfl w.heap.size _ _ _ rfl hown (some ad) l.length c (idc l) rfl hs1 (idc_length l) (idc_one l) (by omega) (by simp) ?_; intro v' w1 h1 h2 h3)
    go_ret
    obtain ⟨A', c', rfl, _, _⟩ := own_form h1
    simp only [Nat.zero_add, List.nil_append] at h1
    exact ⟨A', c', by simp, h1, ((Fr.refl noB w).alloc _).stepG (r := some w.heap.size) h2 (by intro g hg; injection hg with hg; omega)⟩
end Go.Proofs.YtejkfekpgbmdiaaGreat
