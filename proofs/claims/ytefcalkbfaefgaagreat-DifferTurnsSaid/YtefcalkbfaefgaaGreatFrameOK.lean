/- The frame of a law's proof over package obj's types: arguments of types api.Stamp, api.Head, api.Op, api.Item, api.Change, api.Label and slices of them, opened. -/
import Derived.Test.YtefcalkbfaefgaaGreatRows
import Derived.Test.YtefcalkbfaefgaaGreatRdCK
import Derived.WalkKit
import Derived.ProofKit
import Derived.OpenShut
import Derived.ShutString
import Derived.ChangeOld
import Derived.Below
import Derived.SizedLaws
import Derived.Deep.Slices
namespace Go.Proofs.YtefcalkbfaefgaaGreat
open Go.ChangeShapes Go.WideShapes Go.ChangeAt Go.RowKit Go.Deep
set_option linter.unusedVariables false

theorem own : ownKnob Tryz.prog.godebug = none := by kernel_rfl
theorem laidOut : laidOutB Tryz.prog = true := by kernel_rfl
theorem list_of_all {α : Type} {Q : Nat → α → Prop} (n : Nat) (h : ∀ i, i < n → ∃ p, Q i p) : ∃ ps : List α, ps.length = n ∧ ∀ i (hi : i < ps.length), Q i ps[i] := by
  induction n with
  | zero => exact ⟨[], rfl, fun i hi => by simp at hi⟩
  | succ n ih =>
    obtain ⟨ps, hl, hq⟩ := ih (fun i hi => h i (by omega))
    obtain ⟨p, hp⟩ := h n (by omega)
    refine ⟨ps ++ [p], by simp [hl], fun i hi => ?_⟩
    by_cases hi' : i < ps.length
    · rw [List.getElem_append_left hi']; exact hq i hi'
    · have : i = ps.length := by simp at hi; omega
      subst this
      simp only [List.getElem_append_right (Nat.le_refl _), Nat.sub_self, List.getElem_cons_zero]
      rw [hl]; exact hp
theorem u8_wf {a : Int} (h : (Lit.int .u8 a).wf = true) : 0 ≤ a ∧ a < 256 := by
  simp [Lit.wf] at h
  have e1 : IntKind.u8.min = 0 := rfl
  have e2 : IntKind.u8.max = 255 := rfl
  rw [e1, e2] at h
  omega
theorem cut_one {cs p : List Value} {a k b : Nat} (h : (cs.drop a).take k = p) (hb : a + k = b) : cs.drop a = p ++ cs.drop b := by
  subst hb
  rw [← h, ← List.drop_drop, List.take_append_drop]
theorem cut_end {cs : List Value} {n : Nat} (h : cs.length = n) : cs.drop n = [] := List.drop_eq_nil_of_le (by omega)
section
variable {H : Type} {enc : TypeId × Value → H} {W : World}
/-- the reading of a law's argument, with its sizes -/
def Td (enc : TypeId × Value → H) (W : World) (fuel : Nat) (t : TypeId) (cs : List Value) (x : DataW H × List MemPlace) : Prop :=
  DataW.trod enc Tryz.prog W 0 (fun _ => true) true fuel t cs = some x ∧ ∀ n ∈ x.1.weights Tryz.prog t, n ≤ reachBytes
theorem wAll_mem {e : TypeId} {d : DataW H} {l : List (DataW H)} (hd : d ∈ l) {n : Nat} (hn : n ∈ d.weights Tryz.prog e) : n ∈ DataW.weightsAll Tryz.prog e l := by
  induction l with
  | nil => simp at hd
  | cons y l ih =>
    simp only [DataW.weightsAll, List.mem_append]
    rcases List.mem_cons.1 hd with rfl | h
    · exact .inl hn
    · exact .inr (ih h)
theorem td_fld {t : TypeId} {fs : Array Field} {fuel : Nat} {cs : List Value} {x : DataW H × List MemPlace} (ht : Tryz.prog.underlying t = some (.struct fs)) (h : Td enc W fuel t cs x) :
    ∃ n, cs.length = Tryz.prog.cellsOf t ∧ ∀ (i : Nat) f, fs[i]? = some f → ∃ y, Td enc W n f.type ((cs.drop f.offset).take (Tryz.prog.cellsOf f.type)) y := by
  obtain ⟨h, hw⟩ := h
  obtain ⟨xs, n, _, rfl, hl, hlen, hf⟩ := DataW.trod_struct ht h
  refine ⟨n, hl, fun i f hi => ?_⟩
  have hil : i < xs.length := by rw [hlen]; exact (Array.getElem?_eq_some_iff.1 hi).1
  refine ⟨xs[i], (hf i f hi).trans (List.getElem?_eq_getElem hil), fun m hm => hw m ?_⟩
  simp only [DataW.weights, ht]
  exact DataW.weights_mem_each (j := i) (by simp [hi]) (by rw [List.getElem?_map, List.getElem?_eq_getElem hil]; rfl) m hm
theorem td_f2 {t : TypeId} {f0 f1 : Field} {fuel : Nat} {cs : List Value} {x : DataW H × List MemPlace} (ht : Tryz.prog.underlying t = some (.struct #[f0, f1])) (h : Td enc W fuel t cs x) :
    ∃ n, cs.length = Tryz.prog.cellsOf t ∧ (∃ y, Td enc W n f0.type ((cs.drop f0.offset).take (Tryz.prog.cellsOf f0.type)) y) ∧ (∃ y, Td enc W n f1.type ((cs.drop f1.offset).take (Tryz.prog.cellsOf f1.type)) y) := by
  obtain ⟨n, hl, hf⟩ := td_fld ht h
  exact ⟨n, hl, hf 0 f0 rfl, hf 1 f1 rfl⟩
theorem td_f3 {t : TypeId} {f0 f1 f2 : Field} {fuel : Nat} {cs : List Value} {x : DataW H × List MemPlace} (ht : Tryz.prog.underlying t = some (.struct #[f0, f1, f2])) (h : Td enc W fuel t cs x) :
    ∃ n, cs.length = Tryz.prog.cellsOf t ∧ (∃ y, Td enc W n f0.type ((cs.drop f0.offset).take (Tryz.prog.cellsOf f0.type)) y) ∧ (∃ y, Td enc W n f1.type ((cs.drop f1.offset).take (Tryz.prog.cellsOf f1.type)) y) ∧ (∃ y, Td enc W n f2.type ((cs.drop f2.offset).take (Tryz.prog.cellsOf f2.type)) y) := by
  obtain ⟨n, hl, hf⟩ := td_fld ht h
  exact ⟨n, hl, hf 0 f0 rfl, hf 1 f1 rfl, hf 2 f2 rfl⟩
theorem td_f5 {t : TypeId} {f0 f1 f2 f3 f4 : Field} {fuel : Nat} {cs : List Value} {x : DataW H × List MemPlace} (ht : Tryz.prog.underlying t = some (.struct #[f0, f1, f2, f3, f4])) (h : Td enc W fuel t cs x) :
    ∃ n, cs.length = Tryz.prog.cellsOf t ∧ (∃ y, Td enc W n f0.type ((cs.drop f0.offset).take (Tryz.prog.cellsOf f0.type)) y) ∧ (∃ y, Td enc W n f1.type ((cs.drop f1.offset).take (Tryz.prog.cellsOf f1.type)) y) ∧ (∃ y, Td enc W n f2.type ((cs.drop f2.offset).take (Tryz.prog.cellsOf f2.type)) y) ∧ (∃ y, Td enc W n f3.type ((cs.drop f3.offset).take (Tryz.prog.cellsOf f3.type)) y) ∧ (∃ y, Td enc W n f4.type ((cs.drop f4.offset).take (Tryz.prog.cellsOf f4.type)) y) := by
  obtain ⟨n, hl, hf⟩ := td_fld ht h
  exact ⟨n, hl, hf 0 f0 rfl, hf 1 f1 rfl, hf 2 f2 rfl, hf 3 f3 rfl, hf 4 f4 rfl⟩
theorem td_f6 {t : TypeId} {f0 f1 f2 f3 f4 f5 : Field} {fuel : Nat} {cs : List Value} {x : DataW H × List MemPlace} (ht : Tryz.prog.underlying t = some (.struct #[f0, f1, f2, f3, f4, f5])) (h : Td enc W fuel t cs x) :
    ∃ n, cs.length = Tryz.prog.cellsOf t ∧ (∃ y, Td enc W n f0.type ((cs.drop f0.offset).take (Tryz.prog.cellsOf f0.type)) y) ∧ (∃ y, Td enc W n f1.type ((cs.drop f1.offset).take (Tryz.prog.cellsOf f1.type)) y) ∧ (∃ y, Td enc W n f2.type ((cs.drop f2.offset).take (Tryz.prog.cellsOf f2.type)) y) ∧ (∃ y, Td enc W n f3.type ((cs.drop f3.offset).take (Tryz.prog.cellsOf f3.type)) y) ∧ (∃ y, Td enc W n f4.type ((cs.drop f4.offset).take (Tryz.prog.cellsOf f4.type)) y) ∧ (∃ y, Td enc W n f5.type ((cs.drop f5.offset).take (Tryz.prog.cellsOf f5.type)) y) := by
  obtain ⟨n, hl, hf⟩ := td_fld ht h
  exact ⟨n, hl, hf 0 f0 rfl, hf 1 f1 rfl, hf 2 f2 rfl, hf 3 f3 rfl, hf 4 f4 rfl, hf 5 f5 rfl⟩
theorem td_f7 {t : TypeId} {f0 f1 f2 f3 f4 f5 f6 : Field} {fuel : Nat} {cs : List Value} {x : DataW H × List MemPlace} (ht : Tryz.prog.underlying t = some (.struct #[f0, f1, f2, f3, f4, f5, f6])) (h : Td enc W fuel t cs x) :
    ∃ n, cs.length = Tryz.prog.cellsOf t ∧ (∃ y, Td enc W n f0.type ((cs.drop f0.offset).take (Tryz.prog.cellsOf f0.type)) y) ∧ (∃ y, Td enc W n f1.type ((cs.drop f1.offset).take (Tryz.prog.cellsOf f1.type)) y) ∧ (∃ y, Td enc W n f2.type ((cs.drop f2.offset).take (Tryz.prog.cellsOf f2.type)) y) ∧ (∃ y, Td enc W n f3.type ((cs.drop f3.offset).take (Tryz.prog.cellsOf f3.type)) y) ∧ (∃ y, Td enc W n f4.type ((cs.drop f4.offset).take (Tryz.prog.cellsOf f4.type)) y) ∧ (∃ y, Td enc W n f5.type ((cs.drop f5.offset).take (Tryz.prog.cellsOf f5.type)) y) ∧ (∃ y, Td enc W n f6.type ((cs.drop f6.offset).take (Tryz.prog.cellsOf f6.type)) y) := by
  obtain ⟨n, hl, hf⟩ := td_fld ht h
  exact ⟨n, hl, hf 0 f0 rfl, hf 1 f1 rfl, hf 2 f2 rfl, hf 3 f3 rfl, hf 4 f4 rfl, hf 5 f5 rfl, hf 6 f6 rfl⟩
theorem td_int {t : TypeId} {k : IntKind} {fuel : Nat} {cs : List Value} {x : DataW H × List MemPlace} (ht : Tryz.prog.underlying t = some (.int k)) (h : Td enc W fuel t cs x) : ∃ a, cs = [.int k a] := by
  obtain ⟨a, ea, _, _⟩ := DataW.trod_int ht h.1
  exact ⟨a, ea⟩
theorem td_str {t : TypeId} {fuel : Nat} {cs : List Value} {x : DataW H × List MemPlace} (ht : Tryz.prog.underlying t = some .string) (h : Td enc W fuel t cs x) : ∃ l : List UInt8, cs = [.string (str l)] ∧ l.length ≤ 140737488355328 := by
  obtain ⟨h, hw⟩ := h
  obtain ⟨s, e, rfl, hs⟩ := DataW.trod_string ht h
  refine ⟨s.data.toList, e, ?_⟩
  have := hw s.data.toList.length (by simp [DataW.weights])
  simp only [reachBytes] at this
  omega
set_option maxRecDepth 100000 in
theorem td_id {fuel : Nat} {cs : List Value} {x : DataW H × List MemPlace} (h : Td enc W fuel 39 cs x) : ∃ y : ID, cs = bv y.1 := by
  obtain ⟨xs, k, _, _, hcl, hxl, he⟩ := DataW.trod_array Tryz.underlying39 h.1
  have c32 : Tryz.prog.cellsOf 39 = 32 := by kernel_rfl
  have c1 : Tryz.prog.cellsOf 5 = 1 := by kernel_rfl
  rw [c32] at hcl
  rw [c1] at he
  have hp : ∀ i, i < 32 → ∃ b : UInt8, cs[i]? = some (u8v b) := by
    intro i hi
    have e := he i hi
    rw [List.getElem?_eq_getElem (by omega)] at e
    have hd : (cs.drop (i * 1)).take 1 = [cs[i]'(by omega)] := by
      rw [Nat.mul_one, List.drop_eq_getElem_cons (by omega)]; rfl
    rw [hd] at e
    obtain ⟨a, ea, _, hw⟩ := DataW.trod_int Tryz.underlying5 e
    simp only [List.cons.injEq, and_true] at ea
    have hb := u8_wf hw
    refine ⟨UInt8.ofNat a.toNat, ?_⟩
    rw [List.getElem?_eq_getElem (by omega), ea]
    unfold u8v
    rw [UInt8.toNat_ofNat', Nat.mod_eq_of_lt (by omega)]
    congr 2
    omega
  obtain ⟨bs, hl, hq⟩ := list_of_all 32 hp
  refine ⟨⟨bs, hl⟩, ?_⟩
  apply List.ext_getElem?
  intro i
  by_cases hi : i < 32
  · rw [hq i (by omega), bv_get _ _ (by show i < bs.length; omega)]; rfl
  · rw [List.getElem?_eq_none (by omega), List.getElem?_eq_none (by rw [bv_length]; show bs.length ≤ i; omega)]
set_option maxRecDepth 100000 in
/-- a slice of values that a Cod describes -/
theorem td_slk {α : Type} (C : Cod α) {R : α → Prop} {ts : TypeId} (hts : Tryz.prog.underlying ts = some (.slice C.t)) (hC : Tryz.prog.cellsOf C.t = C.n) {k : Nat} (hk : 1 ≤ k) (hB : k ≤ Tryz.prog.bytesOf C.t)
    (hel : ∀ n cs x, Td enc W n C.t cs x → ∃ a, cs = C.cs a ∧ R a) {fuel : Nat} {cs : List Value} {x : DataW H × List MemPlace} (h : Td enc W fuel ts cs x) :
    ∃ (B : Option Addr) (xs : List α) (c : Nat), cs = [.slice B xs.length c] ∧ Sl W B (C.row xs) ∧ xs.length * k ≤ 140737488355328 ∧ xs.length ≤ c ∧ ∀ i (hi : i < xs.length), R xs[i] := by
  obtain ⟨h, hw⟩ := h
  rcases open_slice hts h with ⟨hcs, _⟩ | ⟨a, l, c, m, n, D, Pl, hcs, _, hl, hm, hmm, rfl, hall⟩
  · exact ⟨none, [], 0, hcs, Sl.nil _ _, by simp, by simp, fun i hi => by simp at hi⟩
  · simp only [if_true] at hmm
    subst hmm
    simp only [DataW.weights, hts] at hw
    have hwl : l * k ≤ 140737488355328 := by
      have h1 := hw _ (List.mem_cons_self ..)
      simp only [List.length_map, List.length_range, reachBytes] at h1
      have h2 := Nat.mul_le_mul_left (l + (m - l)) hB
      have h3 := Nat.mul_le_mul_right k (show l ≤ l + (m - l) by omega)
      omega
    rw [hC] at hall
    have hp : ∀ i, i < l → ∃ y : α, (∀ j (v : Value), (C.cs y)[j]? = some v → W.cell? ((a.add (i * C.n)).add j) = some v) ∧ R y := by
      intro i hi
      obtain ⟨cs', hc, ht⟩ := hall i (by omega)
      obtain ⟨_, hcl, hat⟩ := World.cells?_some hc
      obtain ⟨y, rfl, hr⟩ := hel _ _ _ ⟨ht, fun k hk => hw k (List.mem_cons_of_mem _ (List.mem_append_left _ (wAll_mem (List.mem_map.2 ⟨i, List.mem_range.2 hi, rfl⟩) hk)))⟩
      refine ⟨y, fun j v hv => ?_, hr⟩
      have hj : j < C.n := by have := (List.getElem?_eq_some_iff.1 hv).1; rw [C.len] at this; exact this
      exact (hat j hj).trans hv
    obtain ⟨ps, hpl, hq⟩ := list_of_all l hp
    refine ⟨some a, ps, _, by rw [hpl]; exact hcs, fun hne => ?_, by rw [hpl]; exact hwl, by omega, fun i hi => (hq i hi).2⟩
    obtain ⟨g, off, spot⟩ := a
    have hpos : 0 < ps.length := by
      rcases Nat.eq_zero_or_pos ps.length with h0 | h0
      · have : ps = [] := List.eq_nil_of_length_eq_zero h0
        subst this; simp [Cod.row] at hne
      · exact h0
    have hn := C.pos
    have h00 := (hq 0 hpos).1 0 _ (List.getElem?_eq_getElem (by rw [C.len]; exact hn))
    have hspot : spot = none := by simpa [Addr.add] using World.cell?_spot h00
    subst hspot
    have hadd : ∀ (o j : Nat), (⟨g, o, none⟩ : Addr).add j = ⟨g, o + j, none⟩ := by intro o j; unfold Addr.add; split <;> simp_all
    refine ⟨g, off, rfl, World.block_lt_of_cell? _ _ (by rw [hadd, hadd] at h00; exact h00), fun j u hu => ?_⟩
    have hjl : j < ps.length * C.n := by have := (List.getElem?_eq_some_iff.1 hu).1; rw [Cod.row_len] at this; exact this
    have hi : j / C.n < ps.length := Nat.div_lt_of_lt_mul (by rw [Nat.mul_comm]; exact hjl)
    have hk : j % C.n < (C.cs ps[j / C.n]).length := by rw [C.len]; exact Nat.mod_lt _ hn
    have h1 := (hq (j / C.n) hi).1 (j % C.n) _ (List.getElem?_eq_getElem hk)
    have h2 := Cod.row_get ps (j / C.n) (j % C.n) hi _ (List.getElem?_eq_getElem hk)
    have hdm : j / C.n * C.n + j % C.n = j := Nat.div_add_mod' j C.n
    rw [hdm] at h2
    rw [h2] at hu
    injection hu with hu
    rw [← hu]
    rw [hadd, hadd, Nat.add_assoc, hdm] at h1
    exact h1
theorem td_sl {α : Type} (C : Cod α) {R : α → Prop} {ts : TypeId} (hts : Tryz.prog.underlying ts = some (.slice C.t)) (hC : Tryz.prog.cellsOf C.t = C.n) (hB : 1 ≤ Tryz.prog.bytesOf C.t)
    (hel : ∀ n cs x, Td enc W n C.t cs x → ∃ a, cs = C.cs a ∧ R a) {fuel : Nat} {cs : List Value} {x : DataW H × List MemPlace} (h : Td enc W fuel ts cs x) :
    ∃ (B : Option Addr) (xs : List α) (c : Nat), cs = [.slice B xs.length c] ∧ Sl W B (C.row xs) ∧ xs.length ≤ 140737488355328 ∧ xs.length ≤ c ∧ ∀ i (hi : i < xs.length), R xs[i] := by
  obtain ⟨B, xs, c, h1, h2, h3, h4⟩ := td_slk C hts hC (Nat.le_refl 1) hB hel h
  exact ⟨B, xs, c, h1, h2, by omega, h4⟩
/-! the types of package api -/
set_option maxRecDepth 100000 in
theorem td_st {fuel : Nat} {cs : List Value} {x : DataW H × List MemPlace} (h : Td enc W fuel 30 cs x) : ∃ y : St, cs = csS y := by
  obtain ⟨n, hl, ⟨_, y0⟩, ⟨_, y1⟩⟩ := td_f2 Tryz.underlying30 h
  have cl : Tryz.prog.cellsOf 30 = 2 := by kernel_rfl
  have c1 : Tryz.prog.cellsOf 2 = 1 := by kernel_rfl
  have c2 : Tryz.prog.cellsOf 3 = 1 := by kernel_rfl
  rw [cl] at hl
  obtain ⟨a0, e0⟩ := td_int Tryz.underlying2 y0
  obtain ⟨a1, e1⟩ := td_int Tryz.underlying3 y1
  simp only [c1, c2] at e0 e1
  refine ⟨⟨a0, a1⟩, ?_⟩
  have := cut_one e0 rfl
  rw [List.drop_zero] at this
  rw [this, cut_one e1 rfl, cut_end hl]; rfl
set_option maxRecDepth 100000 in
/-- one value of several cells, its reading told -/
theorem td_val {α : Type} (C : Cod α) {fs : Array Field} (ht : Tryz.prog.underlying C.t = some (.struct fs)) {R : α → Prop} (hel : ∀ n cs x, Td enc W n C.t cs x → ∃ a, cs = C.cs a ∧ R a) {base : Nat} {v : Value} {d : DataW H} {p : List MemPlace}
    (hv : Value.okWide Tryz.prog W .any base C.t v) (h : DataW.Trod enc Tryz.prog W 0 (fun _ => true) true C.t v d p) (hw : ∀ n ∈ d.weights Tryz.prog C.t, n ≤ reachBytes) : ∃ a, v = .agg (C.A a) ∧ R a := by
  obtain ⟨cs, rfl, _⟩ := okWide_struct ht hv
  obtain ⟨fuel, hf⟩ := h
  obtain ⟨a, ha, hr⟩ := hel fuel _ (d, p) ⟨hf, hw⟩
  refine ⟨a, ?_, hr⟩
  have : cs.toList = C.cs a := by simpa [Value.cells] using ha
  rw [Cod.A_eq, ← this]
theorem wt_arg {ts : List TypeId} {ds : List (DataW H)} (h : (DataW.weightsEach Tryz.prog ts ds).all (· ≤ reachBytes) = true) {j : Nat} {t : TypeId} {d : DataW H} (ht : ts[j]? = some t) (hd : ds[j]? = some d) : ∀ n ∈ d.weights Tryz.prog t, n ≤ reachBytes := fun n hn => by
  simpa using List.all_eq_true.1 h n (DataW.weights_mem_each ht hd n hn)
set_option maxRecDepth 100000 in
theorem td_hd {fuel : Nat} {cs : List Value} {x : DataW H × List MemPlace} (h : Td enc W fuel 93 cs x) : ∃ y : Hd, cs = csH y := by
  obtain ⟨n, hl, ⟨_, y0⟩, ⟨_, y1⟩⟩ := td_f2 Tryz.underlying93 h
  have cl : Tryz.prog.cellsOf 93 = 34 := by kernel_rfl
  rw [cl] at hl
  have c0 : Tryz.prog.cellsOf 30 = 2 := by kernel_rfl
  obtain ⟨a0, e0⟩ := td_st y0
  simp only [c0] at e0
  have c1 : Tryz.prog.cellsOf 39 = 32 := by kernel_rfl
  obtain ⟨a1, e1⟩ := td_id y1
  simp only [c1] at e1
  have e := cut_one e0 rfl
  rw [List.drop_zero] at e
  rw [cut_one e1 rfl, cut_end hl] at e
  exact ⟨⟨a0, a1⟩, by rw [e]; simp [csH, csS]⟩
set_option maxRecDepth 100000 in
theorem td_op {fuel : Nat} {cs : List Value} {x : DataW H × List MemPlace} (h : Td enc W fuel 42 cs x) : ∃ r : OpW, cs = codO.cs r ∧ ∃ o, OpIn W r o := by
  obtain ⟨n, hl, ⟨_, y0⟩, ⟨_, y1⟩, ⟨_, y2⟩, ⟨_, y3⟩, ⟨_, y4⟩, ⟨_, y5⟩, ⟨_, y6⟩⟩ := td_f7 Tryz.underlying42 h
  have cl : Tryz.prog.cellsOf 42 = 41 := by kernel_rfl
  rw [cl] at hl
  have c0 : Tryz.prog.cellsOf 3 = 1 := by kernel_rfl
  obtain ⟨a0, e0⟩ := td_int Tryz.underlying3 y0
  simp only [c0] at e0
  have c1 : Tryz.prog.cellsOf 30 = 2 := by kernel_rfl
  obtain ⟨a1, e1⟩ := td_st y1
  simp only [c1] at e1
  have c2 : Tryz.prog.cellsOf 30 = 2 := by kernel_rfl
  obtain ⟨a2, e2⟩ := td_st y2
  simp only [c2] at e2
  have c3 : Tryz.prog.cellsOf 30 = 2 := by kernel_rfl
  obtain ⟨a3, e3⟩ := td_st y3
  simp only [c3] at e3
  have c4 : Tryz.prog.cellsOf 9 = 1 := by kernel_rfl
  obtain ⟨a4, e4, b4⟩ := td_str Tryz.underlying9 y4
  simp only [c4] at e4
  have c5 : Tryz.prog.cellsOf 39 = 32 := by kernel_rfl
  obtain ⟨a5, e5⟩ := td_id y5
  simp only [c5] at e5
  have c6 : Tryz.prog.cellsOf 40 = 1 := by kernel_rfl
  obtain ⟨A6, l6, k6, e6, s6, b6, m6, r6⟩ := td_sl codS (R := fun _ => True) Tryz.underlying40 (by kernel_rfl) (of_decide_eq_true (by kernel_rfl)) (fun n cs x h => by obtain ⟨y, hy⟩ := td_st h; exact ⟨y, hy, trivial⟩) y6
  simp only [c6] at e6
  have e := cut_one e0 rfl
  rw [List.drop_zero] at e
  rw [cut_one e1 rfl, cut_one e2 rfl, cut_one e3 rfl, cut_one e4 rfl, cut_one e5 rfl, cut_one e6 rfl, cut_end hl] at e
  refine ⟨⟨a0, a1, a2, a3, a4, a5, A6, l6.length, k6⟩, by rw [e]; show _ = csO _; simp [csO, csS], ⟨a0, a1, a2, a3, a4, a5, l6⟩, rfl, rfl, s6, b6, b4⟩
set_option maxRecDepth 100000 in
theorem td_item {fuel : Nat} {cs : List Value} {x : DataW H × List MemPlace} (h : Td enc W fuel 140 cs x) : ∃ r : ItW, cs = codT.cs r ∧ ∃ o, ItIn W r o := by
  obtain ⟨n, hl, ⟨_, y0⟩, ⟨_, y1⟩, ⟨_, y2⟩, ⟨_, y3⟩, ⟨_, y4⟩⟩ := td_f5 Tryz.underlying140 h
  have cl : Tryz.prog.cellsOf 140 = 38 := by kernel_rfl
  rw [cl] at hl
  have c0 : Tryz.prog.cellsOf 30 = 2 := by kernel_rfl
  obtain ⟨a0, e0⟩ := td_st y0
  simp only [c0] at e0
  have c1 : Tryz.prog.cellsOf 30 = 2 := by kernel_rfl
  obtain ⟨a1, e1⟩ := td_st y1
  simp only [c1] at e1
  have c2 : Tryz.prog.cellsOf 9 = 1 := by kernel_rfl
  obtain ⟨a2, e2, b2⟩ := td_str Tryz.underlying9 y2
  simp only [c2] at e2
  have c3 : Tryz.prog.cellsOf 39 = 32 := by kernel_rfl
  obtain ⟨a3, e3⟩ := td_id y3
  simp only [c3] at e3
  have c4 : Tryz.prog.cellsOf 34 = 1 := by kernel_rfl
  obtain ⟨A4, l4, k4, e4, s4, b4, m4, r4⟩ := td_sl codH (R := fun _ => True) Tryz.underlying34 (by kernel_rfl) (of_decide_eq_true (by kernel_rfl)) (fun n cs x h => by obtain ⟨y, hy⟩ := td_hd h; exact ⟨y, hy, trivial⟩) y4
  simp only [c4] at e4
  have e := cut_one e0 rfl
  rw [List.drop_zero] at e
  rw [cut_one e1 rfl, cut_one e2 rfl, cut_one e3 rfl, cut_one e4 rfl, cut_end hl] at e
  refine ⟨⟨a0, a1, a2, a3, A4, l4.length, k4⟩, by rw [e]; show _ = csT _; simp [csT, csS], ⟨a0, a1, a2, a3, l4⟩, rfl, rfl, s4, b4, b2⟩
theorem list_R {α β : Type} {R : α → β → Prop} {l : List α} (h : ∀ i (hi : i < l.length), ∃ b, R l[i] b) : ∃ m : List β, l.length = m.length ∧ ∀ i (h1 : i < l.length) (h2 : i < m.length), R l[i] m[i] := by
  obtain ⟨m, hm, hq⟩ := list_of_all (Q := fun i b => ∃ hi : i < l.length, R l[i] b) l.length (fun i hi => by obtain ⟨b, hb⟩ := h i hi; exact ⟨b, hi, hb⟩)
  exact ⟨m, hm.symm, fun i h1 h2 => (hq i h2).2⟩
theorem td_items {fuel : Nat} {cs : List Value} {x : DataW H × List MemPlace} (h : Td enc W fuel 142 cs x) : ∃ (B : Option Addr) (rs : List ItW) (c : Nat), cs = [.slice B rs.length c] ∧ Sl W B (codT.row rs) ∧ rs.length ≤ 140737488355328 ∧ rs.length ≤ c ∧ ∃ xs, ItsIn W rs xs := by
  obtain ⟨A, rs, c, e, h1, h2, h3, h4⟩ := td_sl codT (R := fun r => ∃ o, ItIn W r o) Tryz.underlying142 (by kernel_rfl) (of_decide_eq_true (by kernel_rfl)) (fun n cs x h => td_item h) h
  obtain ⟨xs, h5, h6⟩ := list_R h4
  exact ⟨A, rs, c, e, h1, h2, h3, xs, h5, h6⟩
set_option maxRecDepth 100000 in
theorem open_items {base : Nat} {v : Value} {d : DataW H} {p : List MemPlace}
    (hv : Value.okWide Tryz.prog W .any base 142 v) (h : DataW.Trod enc Tryz.prog W 0 (fun _ => true) true 142 v d p) (hw : ∀ n ∈ d.weights Tryz.prog 142, n ≤ reachBytes) :
    ∃ (A : Option Addr) (rs : List ItW) (c : Nat), v = .slice A rs.length c ∧ Sl W A (codT.row rs) ∧ rs.length ≤ 140737488355328 ∧ rs.length ≤ c ∧ ∃ xs, ItsIn W rs xs := by
  obtain ⟨a0, len, cap, rfl⟩ := okWide_slice Tryz.underlying142 hv
  obtain ⟨fuel, hf⟩ := h
  obtain ⟨A, rs, c, e, hr⟩ := td_items (x := (d, p)) ⟨hf, hw⟩
  refine ⟨A, rs, c, ?_, hr⟩
  simpa [Value.cells] using e
/-! bytes -/
def codB : Cod UInt8 := ⟨5, 1, fun b => [u8v b], 0, fun _ => rfl, by decide, fun x u hu => by
  rw [List.mem_singleton] at hu
  subst hu; rfl, fun x y h => by
  have h2 : u8v x = u8v y := by injection h
  unfold u8v at h2
  injection h2 with _ h2
  exact UInt8.toNat_inj.1 (by omega)⟩
theorem row_B (l : List UInt8) : codB.row l = bv l := by
  unfold Cod.row bv
  induction l with
  | nil => rfl
  | cons x l ih => rw [List.flatMap_cons, ih]; rfl
theorem td_u8 {fuel : Nat} {cs : List Value} {x : DataW H × List MemPlace} (h : Td enc W fuel 5 cs x) : ∃ b : UInt8, cs = codB.cs b ∧ True := by
  obtain ⟨a, rfl, _, hw⟩ := DataW.trod_int Tryz.underlying5 h.1
  have hb := u8_wf hw
  refine ⟨UInt8.ofNat a.toNat, ?_, trivial⟩
  show _ = [u8v _]
  unfold u8v
  rw [UInt8.toNat_ofNat', Nat.mod_eq_of_lt (by omega)]
  congr 2
  omega
set_option maxRecDepth 100000 in
theorem open_bytesO {base : Nat} {v : Value} {d : DataW H} {p : List MemPlace}
    (hv : Value.okWide Tryz.prog W .any base 114 v) (h : DataW.Trod enc Tryz.prog W 0 (fun _ => true) true 114 v d p) (hw : ∀ n ∈ d.weights Tryz.prog 114, n ≤ reachBytes) :
    ∃ (A : Option Addr) (l : List UInt8) (c : Nat), v = .slice A l.length c ∧ Sl W A (bv l) ∧ l.length ≤ 140737488355328 ∧ l.length ≤ c := by
  obtain ⟨a0, len, cap, rfl⟩ := okWide_slice Tryz.underlying114 hv
  obtain ⟨fuel, hf⟩ := h
  obtain ⟨A, l, c, e, h1, h2, h3, _⟩ := td_sl codB (R := fun _ => True) Tryz.underlying114 (by kernel_rfl) (of_decide_eq_true (by kernel_rfl)) (fun n cs x h => td_u8 h) (x := (d, p)) ⟨hf, hw⟩
  rw [row_B] at h1
  refine ⟨A, l, c, ?_, h1, h2, h3⟩
  simpa [Value.cells] using e
end
end Go.Proofs.YtefcalkbfaefgaaGreat
