/- Contract: stamp.Put. (ex_ldS_at) Contracts: obj.PutBlob, obj.PutLabel. (ex_ldS_at) Contract: obj.PutChange. Contract: obj.PutDir. (ex_ldS_at) -/
import Derived.Test.YtdandpaeeodolaaGreatRdCK
import Derived.Test.YtdandpaeeodolaaGreatRdQK
namespace Go.Proofs.YtdandpaeeodolaaGreat
open Go.RowKit
set_option linter.unusedVariables false
set_option linter.unusedSimpArgs false

theorem opB_len {o : Opn} (h : goodOp o = true) : (opB o).length ≤ 4000 := by
  have hg := h
  simp only [goodOp, Bool.and_eq_true] at h
  obtain ⟨⟨h1, h2⟩, h3⟩ := h
  have a1 := stB_len (okSt_of h1)
  have a2 := stB_len (okSt_of h2)
  unfold opB
  rw [if_pos hg]
  by_cases hk : o.Kind = 1
  · rw [if_pos hk] at h3
    simp only [moveOk, Bool.and_eq_true, decide_eq_true_eq, Bool.or_eq_true] at h3
    obtain ⟨⟨⟨⟨h4, h5⟩, h6⟩, h7⟩, h8⟩ := h3
    have hp : okSt o.Parent := by
      rcases h5 with h5 | h5
      · exact okSt_of h5
      · simp only [fixedS, Bool.and_eq_true, Bool.or_eq_true, decide_eq_true_eq] at h5
        exact ⟨by omega, by omega, by omega, by omega⟩
    have a3 := stB_len hp
    have a4 := nameOk_le h6
    rw [if_pos hk]
    have a5 := numB_length o.Kind.toNat (by omega)
    have a6 := numB_length o.Name.length (by omega)
    simp only [List.length_append, txB]
    omega
  · rw [if_neg hk] at h3
    by_cases hk2 : o.Kind = 2
    · rw [if_pos hk2] at h3
      simp only [editOk, Bool.and_eq_true, decide_eq_true_eq, List.all_eq_true] at h3
      obtain ⟨⟨⟨⟨⟨⟨h4, h5⟩, h6⟩, h7⟩, h8⟩, h9⟩, h10⟩ := h3
      rw [if_neg hk]
      have a5 := numB_length o.Kind.toNat (by omega)
      have a6 := numB_length o.Over.length (by omega)
      have a7 : ∀ l : List St, (∀ s ∈ l, rightS s = true) → (l.flatMap stB).length ≤ l.length * 20 := by
        intro l
        induction l with
        | nil => simp
        | cons x l ih =>
          intro hh
          have := ih (fun s hs => hh s (by simp [hs]))
          have h0 := stB_len (okSt_of (hh x (by simp)))
          simp only [List.flatMap_cons, List.length_append, List.length_cons]
          omega
      have a8 := a7 o.Over (fun s hs => (h9 s hs).1)
      have a9 := o.Data.2
      simp only [List.length_append]
      omega
    · rw [if_neg hk2] at h3; cases h3
def PpR (w W7 : World) (l0 : List UInt8) (ov : List St) (gk : Nat) (v iv : Value) (wr : World) : Prop :=
  ∃ (k : Nat) (A : Option Addr) (c : Nat) (l : List UInt8), v = .slice A l.length c ∧ iv = .int .i64 (k : Int) ∧ gk = ov.length - k ∧ k ≤ ov.length ∧ l = l0 ++ (ov.take k).flatMap stB ∧ l.length ≤ l0.length + k * 20 ∧ wr.ownsRow w.heap.size 5 1 (.slice A l.length c) l.length (bv l) ∧ Fr noB W7 wr
end Go.Proofs.YtdandpaeeodolaaGreat
namespace Go.Proofs.YtdandpaeeodolaaGreat
open Go.RowKit
set_option linter.unusedVariables false
set_option linter.unusedSimpArgs false

theorem own_lit1 (w : World) (b : UInt8) (k : Int) (hk : (b.toNat : Int) = k) : (w.alloc (.cells #[.int .u8 k] 5)).ownsRow w.heap.size 5 1 (.slice (some ⟨w.heap.size, 0, none⟩) 1 1) 1 (bv [b]) := by
  subst hk
  have := World.ownsRow_lit (base := w.heap.size) (e := 5) (size := 1) w #[.int .u8 (b.toNat : Int)] 1 (Nat.le_refl _) (by simp [maxLen]) rfl
  simpa [bv, u8v] using this
theorem own_cap {w : World} {base : Nat} {e : TypeId} {size n c : Nat} {A : Option Addr} {xs : List Value} (h : w.ownsRow base e size (.slice A n c) n xs) : n ≤ c := by
  obtain ⟨A', c', ev, hcc, _⟩ := own_form h
  injection ev with e1 e2 e3
  omega
/-- bytes, or an error's number -/
def PtTo (w : World) (o : Option (List UInt8)) (err : Int) (e : Ending) (w' : World) : Prop :=
  ∃ A c, e = .returned (.tuple #[.slice A (o.getD []).length c, .int .i64 (if o.isSome then 0 else err)]) ∧ w'.ownsRow w.heap.size 5 1 (.slice A (o.getD []).length c) (o.getD []).length (bv (o.getD [])) ∧ Fr noB w w' ∧ (o.getD []).length ≤ c
def putBl (l : List UInt8) : Option (List UInt8) := if l.length ≤ 4096 then some (1 :: l) else none
def putLb (r : Lbl) : Option (List UInt8) := if rightLb r = true then some (lbB r) else none
end Go.Proofs.YtdandpaeeodolaaGreat
namespace Go.Proofs.YtdandpaeeodolaaGreat
open Go.RowKit
set_option linter.unusedVariables false
set_option linter.unusedSimpArgs false

/-- bytes that grow by a piece a round -/
def WrR (w W7 : World) (l0 : List UInt8) (n m : Nat) (f : Nat → List UInt8) (gk : Nat) (v iv : Value) (wr : World) : Prop :=
  ∃ (k : Nat) (A : Option Addr) (c : Nat) (l : List UInt8), v = .slice A l.length c ∧ iv = .int .i64 (k : Int) ∧ gk = n - k ∧ k ≤ n ∧ l = l0 ++ f k ∧ l.length ≤ l0.length + k * m ∧ wr.ownsRow w.heap.size 5 1 (.slice A l.length c) l.length (bv l) ∧ Fr noB W7 wr
theorem flat_succ {α : Type} (f : α → List UInt8) (l : List α) (k : Nat) (h : k < l.length) : (l.take (k + 1)).flatMap f = (l.take k).flatMap f ++ f l[k] := by
  rw [List.take_succ_eq_append_getElem h, List.flatMap_append]; simp
def putCh (c : Chg) : Option (List UInt8) := if rightCh c = true then some (chB c) else none
end Go.Proofs.YtdandpaeeodolaaGreat
namespace Go.Proofs.YtdandpaeeodolaaGreat
open Go.RowKit
set_option linter.unusedVariables false
set_option linter.unusedSimpArgs false

def itH (x : It) : List UInt8 := stB x.Node ++ stB x.At ++ txB x.Name ++ x.Sub.1 ++ numB x.Heads.length
theorem itB_eq (x : It) : itB x = itH x ++ x.Heads.flatMap hdB := rfl
theorem hdB_len {h : Hd} (hh : rightS h.At = true) : (hdB h).length ≤ 52 := by
  have := stB_len (okSt_of hh)
  unfold hdB
  rw [List.length_append, h.Data.2]; omega
theorem own_frB {w w' : World} {base n c : Nat} {A : Option Addr} {xs : List Value} (h : w.ownsRow base 5 1 (.slice A n c) n xs) (f : Fr noB w w') : w'.ownsRow base 5 1 (.slice A n c) n xs := own_new0 h f
theorem Fr.own {w0 w w' : World} {A : Option Addr} {n c : Nat} {xs : List Value} (f : Fr noB w0 w) (h : w.ownsRow w0.heap.size 5 1 (.slice A n c) n xs) (hg : w.grownBy w' (A.map (·.block))) : Fr noB w0 w' :=
  f.step (Fr.ofGrown (M := fun b => A.map (·.block) = some b) hg (fun g hg => hg)) (fun b hb => .inl (own_lt h b hb).1)
theorem fH {w : World} {N : Nat} {q : Hd} (hx : codH.rd w N 0 = some q) : codS.rd w N 0 = some q.At ∧ rdI w N 2 = some q.Data := ⟨(hdAt hx).At, (hdAt hx).data⟩
def putDr (l : List It) : Option (List UInt8) := if rightDr l = true then some (drB l) else none
theorem str_of (m : ByteArray) : str m.data.toList = m := rfl
end Go.Proofs.YtdandpaeeodolaaGreat
