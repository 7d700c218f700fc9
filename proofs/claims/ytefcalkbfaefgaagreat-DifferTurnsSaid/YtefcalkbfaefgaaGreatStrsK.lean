/- Contracts: readers and numbers of package enc. Bytes and strings: conversions. -/
import Derived.Test.YtefcalkbfaefgaaGreatProg
import Derived.Test.YtefcalkbfaefgaaGreatMemK
import Derived.Test.YtefcalkbfaefgaaGreatNumBK
import Derived.WalkSpells
import Derived.Outline
import Derived.Laws.BytesArg
import Derived.Lib.SlBytesConst
namespace Go.Proofs.YtefcalkbfaefgaaGreat
open Go.RowKit
set_option linter.unusedVariables false
set_option linter.unusedSimpArgs false

theorem ET.mk' {P : Program} {t e : TypeId} {z : Value} {size bytes : Nat} (ht : P.underlying t = some (.slice e))
    (h : (P.info? e).map (fun i => (i.zero, i.size, i.bytes)) = some (some z, size, bytes)) (hz : z.cells.size = size) (hs : 0 < size) (hb : 0 < bytes) : ET P t e size bytes := by
  obtain ⟨i, h1, h2, h3, h4⟩ := info_parts h
  exact ⟨ht, ⟨i, z, h1, h2, h3, h4, hz⟩, hs, hb⟩
theorem etBytes : ET Tryz.prog 114 5 1 1 := ET.mk' (z := .int .u8 0) Tryz.underlying114 (by kernel_rfl) rfl (by decide) (by decide)

@[go_sem] theorem bytes_eq_nil (w : World) (a : Option Addr) (n c : Nat) : (binOp .eql 114 (.slice a n c) (.slice none 0 0)).run Tryz.prog w = .ok (.bool a.isNone) w :=
  Lib.run_eql_slice_nil w _ _ a n c 0 0 Tryz.underlying114

section
variable (w : World) (a : Option Addr) (n c : Nat)
noncomputable def sliceElse (w : World) (a : Option Addr) (n c : Nat) (lo hi : Option Value) : Result Value := (Instr.slice 114 (.slice a n c) lo hi none).run Tryz.prog w
set_option maxRecDepth 100000 in
@[simp] theorem bs_l (k : IntKind) (l : Int) :
    (Instr.slice 114 (.slice a n c) (some (.int k l)) none none).run Tryz.prog w = if 0 ≤ l ∧ l ≤ n then .ok (.slice (cutA a c l.toNat 1) (n - l.toNat) (c - l.toNat)) w else sliceElse w a n c (some (.int k l)) none := by
  split
  · rename_i h
    rw [run_slice_l w 114 a n c Tryz.underlying114 k l h.1 h.2]; rfl
  · rfl
set_option maxRecDepth 100000 in
@[simp] theorem bs_lh (k k' : IntKind) (l h : Int) :
    (Instr.slice 114 (.slice a n c) (some (.int k l)) (some (.int k' h)) none).run Tryz.prog w = if 0 ≤ l ∧ l ≤ h ∧ h ≤ c then .ok (.slice (cutA a c l.toNat 1) (h.toNat - l.toNat) (c - l.toNat)) w else sliceElse w a n c (some (.int k l)) (some (.int k' h)) := by
  split
  · rename_i hh
    rw [run_slice_lh w 114 a n c Tryz.underlying114 k k' l h hh.1 hh.2.1 hh.2.2]; rfl
  · rfl
end

/-- A new row of bytes is handed back, nothing that was there has turned. -/
def NewBytes (w : World) (l : List UInt8) (e : Ending) (w' : World) : Prop :=
  ∃ A c, e = .returned (.slice A l.length c) ∧ w'.ownsRow w.heap.size 5 1 (.slice A l.length c) l.length (bv l) ∧ Fr noB w w'

theorem NewBytes.mk {w w' : World} {v : Value} {n : Nat} {l : List UInt8} (ho : w'.ownsRow w.heap.size 5 1 v n (bv l)) (hf : Fr noB w w') : NewBytes w l (.returned v) w' := by
  have hn : n = l.length := by have := ho.1; simp at this; omega
  subst hn
  obtain ⟨A, c, rfl, _, _⟩ := own_form ho
  exact ⟨A, c, rfl, ho, hf⟩

theorem clone_any (w : World) (A : Option Addr) (c : Nat) (l : List UInt8) (hs : Sl w A (bv l)) (hb : l.length ≤ 140737488355328) :
    Calls Tryz.prog 115 #[.slice A l.length c] w (NewBytes w l) := by
  rcases A with _ | ad
  · have hl : l = [] := by
      cases l with
      | nil => rfl
      | cons b t => obtain ⟨g, off, h, _⟩ := hs (by simp [bv]); cases h
    subst hl
    go_enter Tryz.func115, Tryz.ntmps115
    go_wp2
    go_ret
    exact ⟨none, 0, rfl, World.ownsRow_nil _ _ _ _, Fr.refl _ _⟩
  · have hown := World.ownsRow_lit (base := w.heap.size) (e := 5) (size := 1) w #[] 0 (Nat.le_refl _) (by simp [maxLen]) rfl
    have hs1 : Sl (w.alloc (.cells #[] 5)) (some ad) (bv l) := hs.fr0 ((Fr.refl noB w).alloc _)
    go_enter Tryz.func115, Tryz.ntmps115
    go_wp2_with (at_builtin; refine wpList_app _ etBytes rfl _ _ rfl w.heap.size _ _ _ rfl hown (some ad) l.length c (bv l) rfl hs1 (by simp) (bv_one l) (by omega) (by simp) ?_; intro v' w1 h1 h2 h3)
    go_ret
    obtain ⟨A', c', rfl, _, _⟩ := own_form h1
    simp only [Nat.zero_add, List.nil_append] at h1
    exact ⟨A', c', by simp, h1, ((Fr.refl noB w).alloc _).stepG (r := some w.heap.size) h2 (by intro g hg; injection hg with hg; omega)⟩

theorem clone_n (w : World) (A : Option Addr) (c : Nat) (l : List UInt8) (n : Nat) (hn : l.length = n) (hs : Sl w A (bv l)) (hb : l.length ≤ 140737488355328) :
    Calls Tryz.prog 115 #[.slice A n c] w (NewBytes w l) := by subst hn; exact clone_any w A c l hs hb
/-- the loop of a reader's number, from the i-th byte on -/
def rn (most i u : Nat) (s : RS) : Option (Nat × List UInt8) := if s.2 then none else gnAux most i u s.1

theorem rdNum_rn (most : Nat) (s : RS) : rdNum most s = match rn most 0 0 s with | none => (0, ([], true)) | some (n, t) => (n, (t, false)) := by
  unfold rdNum rn getN
  cases s.2 <;> rfl

theorem rn_bad {most i u : Nat} {s : RS} (h : s.2 = true ∨ s.1 = []) : rn most i u s = none := by
  unfold rn
  rcases h with h | h
  · simp [h]
  · rw [h]; simp [gnAux]
theorem rn_cons (most i u : Nat) (b : UInt8) (t : List UInt8) (hi : i < 9) :
    rn most i u (b :: t, false) = if 128 ≤ b.toNat then rn most (i + 1) (u + b.toNat % 128 * 128 ^ i) (t, false)
      else if 4611686018427387904 < u + b.toNat % 128 * 128 ^ i ∨ most < u + b.toNat % 128 * 128 ^ i ∨ (b.toNat = 0 ∧ 0 < i) then none else some (u + b.toNat % 128 * 128 ^ i, t) := by
  unfold rn
  simp only [gnAux, Bool.false_eq_true, if_false, if_neg (show ¬ 9 ≤ i by omega)]
theorem rn_nine (most u : Nat) (s : RS) : rn most 9 u s = none := by
  unfold rn
  split
  · rfl
  · cases s.1 <;> simp [gnAux]

theorem rdNum_none {most : Nat} {s : RS} (h : rn most 0 0 s = none) : rdNum most s = (0, ([], true)) := by rw [rdNum_rn, h]
theorem rdNum_some {most : Nat} {s : RS} {n : Nat} {t : List UInt8} (h : rn most 0 0 s = some (n, t)) : rdNum most s = (n, (t, false)) := by rw [rdNum_rn, h]

end Go.Proofs.YtefcalkbfaefgaaGreat
namespace Go.Proofs.YtefcalkbfaefgaaGreat
open Go.RowKit
set_option linter.unusedVariables false
set_option linter.unusedSimpArgs false

/-- The bytes of a string, as the model has them. -/
def str (l : List UInt8) : ByteArray := ⟨l.toArray⟩

theorem str_toList (l : List UInt8) : (str l).toList = l := by rw [ByteArray.toList_eq]; rfl

theorem strOfNums_bytes (l : List UInt8) : strOfNums (l.map fun b => (b.toNat : Int)) = str l := by
  unfold strOfNums str
  simp [List.map_map, Function.comp_def]

theorem getD_nums (l : List UInt8) (i : Nat) (h : i < l.length) : (l.map fun b => (b.toNat : Int)).getD i 0 = ((l[i]).toNat : Int) := by simp [List.getD, h]

/-- 'string(b)' -/
theorem conv_str (w : World) (A : Option Addr) (n c : Nat) (l : List UInt8) (hn : l.length = n) (hs : Sl w A (bv l)) :
    (convert 114 9 (.slice A n c)).run Tryz.prog w = .ok (.string (str l)) w := by
  subst hn
  cases l with
  | nil =>
    cases A with
    | none => exact run_convert_bytes_nil w 114 5 Tryz.underlying114 Tryz.underlying5 _ _ 9 Tryz.underlying9
    | some a =>
      rw [run_convert_bytes_string w 114 9 5 _ _ _ Tryz.underlying114 Tryz.underlying5 Tryz.underlying9]
      have := run_bytesToString (P := Tryz.prog) w a 0 c [] (by simp [loadCells, loadCellsFrom])
      exact this
  | cons b t =>
    obtain ⟨g, off, rfl, hg, hc⟩ := hs (by simp [bv])
    have := run_convert_bytes_arg (P := Tryz.prog) w 114 5 Tryz.underlying114 Tryz.underlying5 g off (b :: t).length c ((b :: t).map fun b => (b.toNat : Int)) (by simp) (by
      intro i hi
      rw [hc i _ (bv_get (b :: t) i hi), getD_nums _ i hi]) 9 Tryz.underlying9
    rw [this, strOfNums_bytes]

/-- '[]byte("constant")': the row that is made. -/
@[simp] theorem conv_const (w : World) (C : Array Value) (n c : Nat) :
    (convert 114 114 (.slice (some ⟨w.heap.size, 0, none⟩) n c)).run Tryz.prog (w.alloc (.cells C 5)) = .ok (.slice (some ⟨w.heap.size, 0, none⟩) n c) (w.alloc (.cells C 5 (C.size, C.size + 1))) :=
  Lib.run_convert_bytes_const w 114 5 C n c Tryz.underlying114 Tryz.underlying5

/-- What a new block holds, whatever of it is marked. -/
theorem Sl.newF (w : World) (t : TypeId) (cs : List Value) (f : Nat × Nat) : Sl (w.alloc (.cells cs.toArray t f)) (some ⟨w.heap.size, 0, none⟩) cs := by
  intro _
  have hh : (w.alloc (.cells cs.toArray t f)).heap[w.heap.size]? = some (.cells cs.toArray t f) := heap_alloc_new w _
  refine ⟨w.heap.size, 0, rfl, (Array.getElem?_eq_some_iff.1 hh).1, fun j u hu => ?_⟩
  rw [Nat.zero_add, cell_of_row _ _ j cs.toArray t f hh]
  simpa using hu
end Go.Proofs.YtefcalkbfaefgaaGreat
