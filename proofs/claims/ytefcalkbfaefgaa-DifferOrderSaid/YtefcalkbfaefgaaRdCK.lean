/- Contract: stamp.Get. Contract: obj.getItem. Contracts: bytes.Clone, obj.Blob, obj.Label. Contract: obj.Dir. Contract: obj.Change. -/
import Derived.Test.YtefcalkbfaefgaaRBoxK
import Derived.Deep.LoopGhost
import Derived.Test.YtefcalkbfaefgaaShelfK
namespace Go.Proofs.Ytefcalkbfaefgaa
open Go.RowKit
set_option linter.unusedVariables false
set_option linter.unusedSimpArgs false

theorem rdTake_le (n : Nat) (s : RS) : (rdTake n s).1.length ≤ n := by
  unfold rdTake
  split
  · exact Nat.zero_le _
  · simp; omega
theorem rdText_le (most : Nat) (s : RS) : (rdText most s).1.length ≤ most := Nat.le_trans (rdTake_le _ _) (rdNum_bd most s).1
theorem rdAll_len {α : Type} {f : RS → α × RS} (hf : ∀ s, (f s).2.1.length ≤ s.1.length) : ∀ (n : Nat) (s : RS), (rdAll f n s).1.length = n ∧ (rdAll f n s).2.1.length ≤ s.1.length
  | 0, s => ⟨rfl, Nat.le_refl _⟩
  | n + 1, s => by
    have := rdAll_len hf n (f s).2
    simp only [rdAll, List.length_cons]
    exact ⟨by rw [this.1], Nat.le_trans this.2 (hf s)⟩
theorem rdAll_step {α : Type} (f : RS → α × RS) (n : Nat) (l : List α) (s s' : RS) (x : α) (h : f s = (x, s')) : (l ++ (rdAll f (n + 1) s).1, (rdAll f (n + 1) s).2) = ((l ++ [x]) ++ (rdAll f n s').1, (rdAll f n s').2) := by
  simp only [rdAll, h, List.append_assoc, List.singleton_append]
end Go.Proofs.Ytefcalkbfaefgaa
namespace Go.Proofs.Ytefcalkbfaefgaa
open Go.RowKit
set_option linter.unusedVariables false
set_option linter.unusedSimpArgs false

theorem own_lt {w : World} {base : Nat} {e : TypeId} {size n c : Nat} {A : Option Addr} {xs : List Value} (h : w.ownsRow base e size (.slice A n c) n xs) (g : Nat) (hg : A.map (·.block) = some g) : base ≤ g ∧ g < w.heap.size := by
  have := h.lt g (by rw [ownBlock_sl']; exact hg)
  exact this
theorem rdHd_len (s : RS) : (rdHd s).2.1.length ≤ s.1.length := Nat.le_trans (rdId_len _) (rdSt_len _)
theorem rdMany_len {α : Type} {f : RS → α × RS} (hf : ∀ s, (f s).2.1.length ≤ s.1.length) : ∀ (n : Nat) (s : RS), (rdMany f n s).1.length ≤ n ∧ (rdMany f n s).2.1.length ≤ s.1.length
  | 0, s => ⟨Nat.le_refl _, Nat.le_refl _⟩
  | n + 1, s => by
    have := rdMany_len hf n (f s).2
    simp only [rdMany]
    split
    · exact ⟨by simp, hf s⟩
    · exact ⟨by simp only [List.length_cons]; omega, Nat.le_trans this.2 (hf s)⟩
theorem rdMany_step {α : Type} (f : RS → α × RS) (n : Nat) (l : List α) (s s' : RS) (x : α) (h : f s = (x, s')) (hb : s'.2 = false) : (l ++ (rdMany f (n + 1) s).1, (rdMany f (n + 1) s).2) = ((l ++ [x]) ++ (rdMany f n s').1, (rdMany f n s').2) := by
  simp only [rdMany, h, hb, Bool.false_eq_true, if_false, List.append_assoc, List.singleton_append]
theorem rdMany_stop {α : Type} (f : RS → α × RS) (n : Nat) (l : List α) (s s' : RS) (x : α) (h : f s = (x, s')) (hb : s'.2 = true) : (l ++ (rdMany f (n + 1) s).1, (rdMany f (n + 1) s).2) = (l ++ [x], s') := by
  simp only [rdMany, h, hb, if_true]
end Go.Proofs.Ytefcalkbfaefgaa
namespace Go.Proofs.Ytefcalkbfaefgaa
open Go.RowKit
set_option linter.unusedVariables false
set_option linter.unusedSimpArgs false

/-- bytes and an error's number -/
def BlTo (w : World) (l : List UInt8) (e : Ending) (w' : World) : Prop :=
  ∃ A c, e = .returned (.tuple #[.slice A ((rdBl l).getD []).length c, .int .i64 (if (rdBl l).isSome then 0 else 20)]) ∧ w'.ownsRow w.heap.size 5 1 (.slice A ((rdBl l).getD []).length c) ((rdBl l).getD []).length (bv ((rdBl l).getD [])) ∧ Fr noB w w'
theorem openR_len (l : List UInt8) (k : UInt8) : (openR l k).1.length ≤ l.length := by
  unfold openR
  split
  · simp
  · split <;> simp
end Go.Proofs.Ytefcalkbfaefgaa
namespace Go.Proofs.Ytefcalkbfaefgaa
open Go.RowKit
set_option linter.unusedVariables false
set_option linter.unusedSimpArgs false

/-- two rows of the call's own, of unlike types -/
theorem own_two {w w' : World} {b1 b2 : Nat} {e1 e2 : TypeId} {s1 s2 n1 n2 c1 : Nat} {A : Option Addr} {v : Value} {xs ys : List Value} (h1 : w.ownsRow b1 e1 s1 (.slice A n1 c1) n1 xs) (h2 : w.ownsRow b2 e2 s2 v n2 ys) (hne : e1 ≠ e2) (f : Fr (fun b => A.map (·.block) = some b) w w') : w'.ownsRow b2 e2 s2 v n2 ys := by
  refine own_fr h2 f (fun g hg hM => ?_)
  rcases h1.2 with ⟨hv, _⟩ | ⟨g1, cap, cur, hv, hb, hgg, rest⟩
  · injection hv with hv; subst hv; cases hM
  · injection hv with hv; subst hv
    simp only [Option.map_some, Option.some.injEq] at hM
    subst hM
    exact Blk.ne_own (g := g1) (t := e1) (cs := cur.toList) (by simpa [Blk] using hgg) h2 (fun e => hne e.symm) g1 hg rfl
/-- items that lie in new memory -/
structure ItsOwn (W w : World) (rs : List ItW) (xs : List It) : Prop where
  len : rs.length = xs.length
  at_ : ∀ i (h : i < rs.length) (h' : i < xs.length), ItIn w rs[i] xs[i] ∧ w.ownsRow W.heap.size 62 34 (.slice (rs[i]).A (rs[i]).n (rs[i]).c) (rs[i]).n (codH.row (xs[i]).Heads)
theorem ItsOwn.its {W w : World} {rs : List ItW} {xs : List It} (h : ItsOwn W w rs xs) : ItsIn w rs xs := ⟨h.len, fun i h1 h2 => (h.at_ i h1 h2).1⟩
theorem ItIn.of {w w' : World} {r : ItW} {x : It} (h : ItIn w r x) {base : Nat} (ho : w'.ownsRow base 62 34 (.slice r.A r.n r.c) r.n (codH.row x.Heads)) : ItIn w' r x := ⟨h.eq, h.len, Sl.own ho, h.bd, h.nm⟩
theorem ItsOwn.map {W w w' : World} {rs : List ItW} {xs : List It} (h : ItsOwn W w rs xs) (k : ∀ (v : Value) (n : Nat) (l : List Value), w.ownsRow W.heap.size 62 34 v n l → w'.ownsRow W.heap.size 62 34 v n l) : ItsOwn W w' rs xs :=
  ⟨h.len, fun i h1 h2 => by
    obtain ⟨a, b⟩ := h.at_ i h1 h2
    have b' := k _ _ _ b
    exact ⟨a.of b', b'⟩⟩
theorem ItsOwn.snoc {W w : World} {rs : List ItW} {xs : List It} (h : ItsOwn W w rs xs) {r : ItW} {x : It} (hi : ItIn w r x) (ho : w.ownsRow W.heap.size 62 34 (.slice r.A r.n r.c) r.n (codH.row x.Heads)) : ItsOwn W w (rs ++ [r]) (xs ++ [x]) :=
  ⟨by simp [h.len], fun i h1 h2 => by
    rcases Nat.lt_or_ge i rs.length with h3 | h3
    · have h4 : i < xs.length := by rw [← h.len]; exact h3
      rw [List.getElem_append_left h3, List.getElem_append_left h4]
      exact h.at_ i h3 h4
    · have h5 : i = rs.length := by simp at h1; omega
      have h6 : i = xs.length := by rw [← h.len]; exact h5
      have e1 : (rs ++ [r])[i] = r := by subst h5; simp
      have e2 : (xs ++ [x])[i] = x := by subst h6; simp
      rw [e1, e2]
      exact ⟨hi, ho⟩⟩
section
variable {W w w' : World} {p : Nat} {Q : Nat → Prop} {s s' : RS} {A : Option Addr} {c : Nat} {rs : List ItW} {xs : List It}
end
/-- items and an error's number -/
def DrTo (w : World) (l : List UInt8) (e : Ending) (w' : World) : Prop :=
  ∃ A c rs, e = .returned (.tuple #[.slice A rs.length c, .int .i64 (if (rdDr l).isSome then 0 else 20)]) ∧ Fr noB w w' ∧ OwnC codT w w' A c rs ∧ ItsOwn w w' rs ((rdDr l).getD [])
theorem rdIt_len (s : RS) : (rdIt s).2.1.length ≤ s.1.length := by
  unfold rdIt
  dsimp only
  exact Nat.le_trans (rdMany_len rdHd_len _ _).2 (Nat.le_trans (rdNum_bd _ _).2 (Nat.le_trans (rdId_len _) (Nat.le_trans (rdText_len _ _) (Nat.le_trans (rdSt_len _) (rdSt_len _)))))
end Go.Proofs.Ytefcalkbfaefgaa
namespace Go.Proofs.Ytefcalkbfaefgaa
open Go.RowKit
set_option linter.unusedVariables false
set_option linter.unusedSimpArgs false

def codI : Cod ID := ⟨36, 32, fun x => bv x.1, zID, fun x => by rw [bv_length, x.2], by decide, fun x => bv_one x.1, fun x y h => Subtype.ext (bv_inj h)⟩
theorem row_I (l : List ID) : codI.row l = idc l := rfl
/-- operations that lie in new memory -/
structure OpsOwn (W w : World) (rs : List OpW) (xs : List Opn) : Prop where
  len : rs.length = xs.length
  at_ : ∀ i (h : i < rs.length) (h' : i < xs.length), OpIn w rs[i] xs[i] ∧ w.ownsRow W.heap.size 24 2 (.slice (rs[i]).A (rs[i]).n (rs[i]).c) (rs[i]).n (codS.row (xs[i]).Over)
theorem OpsOwn.ops {W w : World} {rs : List OpW} {xs : List Opn} (h : OpsOwn W w rs xs) : OpsIn w rs xs := ⟨h.len, fun i h1 h2 => (h.at_ i h1 h2).1⟩
theorem OpIn.of {w w' : World} {r : OpW} {x : Opn} (h : OpIn w r x) {base : Nat} (ho : w'.ownsRow base 24 2 (.slice r.A r.n r.c) r.n (codS.row x.Over)) : OpIn w' r x := ⟨h.eq, h.len, Sl.own ho, h.bd, h.nm⟩
theorem OpsOwn.map {W w w' : World} {rs : List OpW} {xs : List Opn} (h : OpsOwn W w rs xs) (k : ∀ (v : Value) (n : Nat) (l : List Value), w.ownsRow W.heap.size 24 2 v n l → w'.ownsRow W.heap.size 24 2 v n l) : OpsOwn W w' rs xs :=
  ⟨h.len, fun i h1 h2 => by
    obtain ⟨a, b⟩ := h.at_ i h1 h2
    have b' := k _ _ _ b
    exact ⟨a.of b', b'⟩⟩
theorem OpsOwn.snoc {W w : World} {rs : List OpW} {xs : List Opn} (h : OpsOwn W w rs xs) {r : OpW} {x : Opn} (hi : OpIn w r x) (ho : w.ownsRow W.heap.size 24 2 (.slice r.A r.n r.c) r.n (codS.row x.Over)) : OpsOwn W w (rs ++ [r]) (xs ++ [x]) :=
  ⟨by simp [h.len], fun i h1 h2 => by
    rcases Nat.lt_or_ge i rs.length with h3 | h3
    · have h4 : i < xs.length := by rw [← h.len]; exact h3
      rw [List.getElem_append_left h3, List.getElem_append_left h4]
      exact h.at_ i h3 h4
    · have h5 : i = rs.length := by simp at h1; omega
      have h6 : i = xs.length := by rw [← h.len]; exact h5
      have e1 : (rs ++ [r])[i] = r := by subst h5; simp
      have e2 : (xs ++ [x])[i] = x := by subst h6; simp
      rw [e1, e2]
      exact ⟨hi, ho⟩⟩
/-- the rows of a commit under way -/
structure Rws (W w : World) (A : Option Addr) (c : Nat) (ps : List ID) (B : Option Addr) (d : Nat) (rs : List OpW) (os : List Opn) : Prop where
  hps : OwnC codI W w A c ps
  hrs : OwnC codO W w B d rs
  hos : OpsOwn W w rs os
section
variable {W w w' : World} {A B : Option Addr} {c d : Nat} {ps : List ID} {rs : List OpW} {os : List Opn}
theorem Rws.box (h : Rws W w A c ps B d rs os) {g : Nat} {t : TypeId} {cs : List Value} (hb : Blk w g t cs) (h1 : 36 ≠ t) (h2 : 39 ≠ t) (h3 : 24 ≠ t) (f : Fr (oneB g) w w') : Rws W w' A c ps B d rs os :=
  ⟨own_box hb h.hps h1 f, own_box hb h.hrs h2 f, h.hos.map fun v n l ho => own_box hb ho h3 f⟩
theorem Rws.new (h : Rws W w A c ps B d rs os) (f : Fr noB w w') : Rws W w' A c ps B d rs os := ⟨own_new0 h.hps f, own_new0 h.hrs f, h.hos.map fun v n l ho => own_new0 ho f⟩
theorem Rws.growP (h : Rws W w A c ps B d rs os) (hg : w.grownBy w' (A.map (·.block))) {A5 : Option Addr} {c5 : Nat} {ps' : List ID} (ho : OwnC codI W w' A5 c5 ps') : Rws W w' A5 c5 ps' B d rs os := by
  have f : Fr (fun b => A.map (·.block) = some b) w w' := Fr.ofGrown hg (fun g hg => hg)
  exact ⟨ho, own_two h.hps h.hrs (by decide) f, h.hos.map fun v n l hv => own_two h.hps hv (by decide) f⟩
theorem Rws.growO (h : Rws W w A c ps B d rs os) (hg : w.grownBy w' (B.map (·.block))) {B5 : Option Addr} {d5 : Nat} {r : OpW} {x : Opn} (ho : OwnC codO W w' B5 d5 (rs ++ [r])) (hi : OpIn w r x) (hro : w.ownsRow W.heap.size 24 2 (.slice r.A r.n r.c) r.n (codS.row x.Over)) : Rws W w' A c ps B5 d5 (rs ++ [r]) (os ++ [x]) := by
  have f : Fr (fun b => B.map (·.block) = some b) w w' := Fr.ofGrown hg (fun g hg => hg)
  have hro' := own_two h.hrs hro (by decide) f
  exact ⟨own_two h.hrs h.hps (by decide) f, ho, (h.hos.map fun v n l hv => own_two h.hrs hv (by decide) f).snoc (hi.of hro') hro'⟩
theorem Rws.base {W0 : World} (h : Rws W w A c ps B d rs os) (hW : W0.heap.size ≤ W.heap.size) : Rws W0 w A c ps B d rs os :=
  ⟨own_base h.hps hW, own_base h.hrs hW, ⟨h.hos.len, fun i h1 h2 => ⟨(h.hos.at_ i h1 h2).1, own_base (h.hos.at_ i h1 h2).2 hW⟩⟩⟩
end
theorem rdOp_len (s : RS) : (rdOp s).2.1.length ≤ s.1.length := by
  unfold rdOp
  split
  · simp
  · unfold rdOp0
    dsimp only
    split
    · exact Nat.le_trans (rdText_len _ _) (Nat.le_trans (rdSt_len _) (Nat.le_trans (rdSt_len _) (Nat.le_trans (rdSt_len _) (rdNum_bd _ _).2)))
    · exact Nat.le_trans (rdAll_len rdSt_len _ _).2 (Nat.le_trans (rdNum_bd _ _).2 (Nat.le_trans (rdId_len _) (Nat.le_trans (rdSt_len _) (Nat.le_trans (rdSt_len _) (rdNum_bd _ _).2))))
end Go.Proofs.Ytefcalkbfaefgaa
