/- Rows of ints of a call's own; maps from texts to such rows. -/
import Derived.Test.YtifgaejmhaepoaaMapF
import Derived.Test.YtifgaejmhaepoaaStrs
import Derived.Test.YtifgaejmhaepoaaTwo
namespace Go.Proofs.Ytifgaejmhaepoaa
open Go.RowKit Go.Maps
set_option linter.unusedVariables false
set_option linter.unusedSimpArgs false

theorem etInts : ET Try.prog 55 3 1 8 := ET.mk' (z := .int .i64 0) Try.underlying55 (by kernel_rfl) rfl (by decide) (by decide)

/-- natural numbers as ints -/
def iv (l : List Nat) : List Value := l.map fun (n : Nat) => Value.int .i64 (n : Int)
@[simp] theorem iv_length (l : List Nat) : (iv l).length = l.length := by simp [iv]
theorem iv_append (l m : List Nat) : iv (l ++ m) = iv l ++ iv m := by simp [iv]
theorem iv_get (l : List Nat) (j : Nat) (h : j < l.length) : (iv l)[j]? = some (.int .i64 ((l[j] : Nat) : Int)) := by simp [iv, h]
theorem iv_one (l : List Nat) : ∀ u ∈ iv l, u.oneCell' = true := by
  intro u hu; simp only [iv, List.mem_map] at hu; obtain ⟨b, _, rfl⟩ := hu; rfl

abbrev OwnI (w0 w : World) (A : Option Addr) (c : Nat) (l : List Nat) : Prop := w.ownsRow w0.heap.size 3 1 (.slice A l.length c) l.length (iv l)

theorem own_iv {w : World} {base : Nat} {e : TypeId} {n : Nat} {v : Value} {l : List Nat} (h : w.ownsRow base e 1 v n (iv l)) : w.ownsRow base e 1 v l.length (iv l) := by
  have hn : n = l.length := by have := h.1; simp at this; omega
  subst hn; exact h

/-- append on ints as one step of a region that draws -/
theorem step_appI (w0 w : World) {ops : Array Oper} {o : Oper} {a : Act} {K : Act → World → Prop} {Q : Exit → Act → World → Prop} {E : Prop} (hgd : o.guard = none) (s x : Operand)
    (ho : o.op = .call { callee := .builtin .append, args := #[s, x], argTypes := #[55, 55] })
    (As : Option Addr) (ns cs : Nat) (lo : List Nat) (hs : a.eval s = .slice As ns cs) (hns : lo.length = ns) (hown : OwnI w0 w As cs lo)
    (A : Option Addr) (m c : Nat) (news : List Nat) (hx : a.eval x = .slice A m c) (hr : Sl w A (iv news)) (hl : news.length = m)
    (hbytes : (lo.length + news.length) * 8 ≤ 140737488355328) (hbase : w0.heap.size ≤ w.heap.size)
    (h : ∀ A' c' w', (lo ++ news).length ≤ c' → c' ≤ maxLen → OwnI w0 w' A' c' (lo ++ news) → w.grownBy w' (As.map (·.block)) →
      (A'.map (·.block) = As.map (·.block) ∨ A'.map (·.block) = some w.heap.size) → K (a.put o.dst (.slice A' (lo ++ news).length c')) w') :
    if Region.wanted o (yielded ops a.tmps) = true then Oper.wp Try.prog o a w K Q else E := by
  have hw : Region.wanted o (yielded ops a.tmps) = true := by simp [Region.wanted, hgd]
  rw [if_pos hw]
  subst hns
  refine wp_app w etInts s x ho w0.heap.size _ lo.length (iv lo) hs hown A m c (iv news) hx hr (by simp [hl]) (iv_one _) (by rw [← hl]; omega) hbase ?_
  intro v' w' h1 h2 h3
  rw [← iv_append] at h1
  have h1' := own_iv h1
  obtain ⟨A', c', rfl, hc1, hc2⟩ := own_form h1'
  rw [ownBlock_slice, ownBlock_slice] at h3
  rw [ownBlock_slice] at h2
  exact h A' c' w' hc1 hc2 h1' h2 h3

/-- texts as keys -/
def SKey : Type := { l : List UInt8 // l.length ≤ maxLen }
instance : DecidableEq SKey := inferInstanceAs (DecidableEq { l : List UInt8 // l.length ≤ maxLen })
def encS (k : SKey) : Value := .string (str k.1)
theorem keyS : KeyE Try.prog 9 encS where
  K := string_keyed Try.underlying9
  good k := ⟨_, WideMaps.keyOf_string_mk Try.underlying9 (s := str k.1) (by simpa [str, ByteArray.size] using k.2)⟩
  inj a b h := by
    have h' : str a.1 = str b.1 := by injection h
    have : a.1.toArray = b.1.toArray := by injection h'
    exact Subtype.ext (by simpa using this)

/-- 'm[k] = v' at an operation -/
theorem wpList_put {P : Program} {w w2 : World} {ops : Array Oper} {rest : List Oper} {o : Oper} {a : Act} {Q : Exit → Act → World → Prop} (hg : o.guard = none) (m x v : Operand) (t : TypeId) (hop : o.op = Op.mapUpdate t m x v)
    (r : Nat) (key val : Value) (hm : a.eval m = .map (some r)) (hx : a.eval x = key) (hv : a.eval v = val) (hrun : (Instr.mapUpdate t (.map (some r)) key val).run P w = .ok () w2)
    (hK : wpList P ops Q rest (a.put o.dst undef) w2) : wpList P ops Q (o :: rest) a w := by
  refine wpList_plain hg fun K' hK' => ?_
  unfold Oper.wp
  simp [execOp, hop, hm, hx, hv, hrun, Result.andThen]
  exact hK' _ _ hK

/-- The map of places: each text's places, rows of the call's own, apart from each other. -/
structure Plc (w0 w : World) (r : Nat) (g : SKey → List Nat) : Prop where
  ex : ∃ f : SKey → Option Value, MapF encS w r f ∧ (∀ k, f k = none → g k = []) ∧ (∀ k v, f k = some v → ∃ A c, v = .slice A (g k).length c ∧ OwnI w0 w A c (g k)) ∧
    ∀ k k' v v' b, k ≠ k' → f k = some v → f k' = some v' → v.ownBlock = some b → v'.ownBlock ≠ some b
  fr : Fr noB w0 w
  rlo : w0.heap.size ≤ r
end Go.Proofs.Ytifgaejmhaepoaa
